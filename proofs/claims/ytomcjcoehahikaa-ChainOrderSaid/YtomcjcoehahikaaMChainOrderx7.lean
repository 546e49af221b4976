/- Printed by a program of the session's own (wip/myprint.sh): the kit's printer, with texts of the session's own for some functions. -/
import Derived.Test.YtomcjcoehahikaaMChainOrderx0
import Derived.Test.YtomcjcoehahikaaMChainOrderx1
import Derived.Test.YtomcjcoehahikaaMChainOrderx2
import Derived.Test.YtomcjcoehahikaaMChainOrderx6
namespace Go.Proofs.Ytomcjcoehahikaa.MChainOrder
open Go.RowKit Go.Proofs.YtomcjcoehahikaaW.PrintWords Go.Proofs.YtomcjcoehahikaaW.PrintLast Go.Proofs.YtomcjcoehahikaaW.PrintMore
attribute [local go_sem] max2_int min2_int max_two min_two max_three min_three max_four min_four   -- for this text's walks alone
set_option linter.unusedVariables false
set_option linter.unusedSimpArgs false

attribute [local go_sem high] eqA27 eqA31
/-! ### dovecoteref07_Same: function 14 -/
def dovecoteref07_Same.l0 : Nat → List (S31) → List (S31) → Int → Option (Bool)
  | 0, _, _, _ => none
  | k + 1, x0, x1, x5 => if x5 < (x0.length : Int) then (if 0 ≤ x5 then (if x5 < (x1.length : Int) then (if ((!(((rd_T31 x0 x5).f0.f0) == ((rd_T31 x1 x5).f0.f0)) || (!(((rd_T31 x0 x5).f0.f1) == ((rd_T31 x1 x5).f0.f1)))) || ((!(((rd_T31 x0 x5).f1.f0) == ((rd_T31 x1 x5).f1.f0)) || (!(((rd_T31 x0 x5).f1.f1) == ((rd_T31 x1 x5).f1.f1)))) || (!((((rd_T31 x0 x5).f2).toList) == (((rd_T31 x1 x5).f2).toList)) || (!(((rd_T31 x0 x5).f3) == ((rd_T31 x1 x5).f3)))))) = true then (some false) else (dovecoteref07_Same.l0 k x0 x1 (wrap64 (x5 + 1)))) else (none)) else (none)) else (some true)
def dovecoteref07_Same.f (k : Nat) (l0 : List (S31)) (l1 : List (S31)) : Option (Bool) := if (l0.length : Int) = (l1.length : Int) then (dovecoteref07_Same.l0 k l0 l1 0) else (some false)
theorem dovecoteref07_Same.mono_l : ∀ k, (∀ y0 y1 y2, LeO (dovecoteref07_Same.l0 k y0 y1 y2) (dovecoteref07_Same.l0 (k + 1) y0 y1 y2))
  | 0 => fun _ _ _ r h => by simp [dovecoteref07_Same.l0] at h
  | k + 1 => by
    have ih0 := dovecoteref07_Same.mono_l k
    · intro y0 y1 y2
      unfold dovecoteref07_Same.l0
      repeat' first
      | (with_reducible exact ih0 _ _ _)
      | (with_reducible exact LeO.refl _)
      | (with_reducible exact LeO.none _)
      | (with_reducible refine LeO.ite ?_ ?_)
      | (with_reducible refine LeO.bind ?_ (fun _ => ?_))
      | exact ih0 _ _ _
      | exact LeO.none _
      | refine LeO.ite ?_ ?_
      | refine LeO.bind ?_ (fun _ => ?_)
theorem dovecoteref07_Same.mono : ∀ a0 a1 k, LeO (dovecoteref07_Same.f k a0 a1) (dovecoteref07_Same.f (k + 1) a0 a1) := by
  intro a0 a1 k
  have ih0 := dovecoteref07_Same.mono_l k
  unfold dovecoteref07_Same.f
  repeat' first
      | (with_reducible exact ih0 _ _ _)
      | (with_reducible exact LeO.refl _)
      | (with_reducible exact LeO.none _)
      | (with_reducible refine LeO.ite ?_ ?_)
      | (with_reducible refine LeO.bind ?_ (fun _ => ?_))
      | exact ih0 _ _ _
      | exact LeO.none _
      | refine LeO.ite ?_ ?_
      | refine LeO.bind ?_ (fun _ => ?_)
set_option maxHeartbeats 8000000 in
set_option maxRecDepth 100000 in
theorem dovecoteref07_Same.calls (k : Nat) (A0 : Option Addr) (c0 : Nat) (l0 : List (S31)) (A1 : Option Addr) (c1 : Nat) (l1 : List (S31)) (r : Bool) (w : World) (hr0 : Kd.C k31 w A0 l0.length l0) (hc0 : l0.length ≤ c0) (hr1 : Kd.C k31 w A1 l1.length l1) (hc1 : l1.length ≤ c1) (h : dovecoteref07_Same.f k l0 l1 = some r) :
    Calls Try.prog 14 #[.slice A0 l0.length c0, .slice A1 l1.length c1] w fun e w' => e = .returned (.bool r) ∧ Drawn0 w w' := by
  have hu31 := Try.underlying31
  have HR0 := Aside0.mk hr0
  have HC0 := Aside0.mk hc0
  clear hr0 hc0
  have HR1 := Aside0.mk hr1
  have HC1 := Aside0.mk hc1
  clear hr1 hc1
  have H : (if (l0.length : Int) = (l1.length : Int) then (dovecoteref07_Same.l0 k l0 l1 0) else (some false)) = some r := h
  clear h
  by_cases c3 : (l0.length : Int) = (l1.length : Int)
  · rw [if_pos c3] at H
    have c3b0 : ((l0.length : Int) == (l1.length : Int)) = true := beq_iff_eq.mpr c3
    have c3b1 : ((l0.length : Int) != (l1.length : Int)) = false := bne_eq_false_iff_eq.mpr c3
    have c3b2 : (l0.length == l1.length) = true := by first | simpa using c3 | (simp at c3 ⊢; omega)
    clear c3
    have H' := Aside0.mk H
    clear H
    go_enter Try.func14, Try.ntmps14
    go_wp2
    repeat (go_quiet (fail); try go_wp2)
    go_loopg [5] k (fun kq v5 w' => ∃ (x5_1 : Int), v5 = .int .i64 x5_1 ∧ Aside0 (dovecoteref07_Same.l0 kq l0 l1 x5_1 = some r) ∧ Aside0 (kq ≤ k) ∧ Drawn0 w w')
    case atStart => exact ⟨(0), (by first | rfl | (simp; done) | (simp [*]; done)), H', ⟨Nat.le_refl _⟩, by repeat (first | exact Drawn0.refl _ | apply Drawn0.step)⟩
    case round =>
      clear H'
      try clear c1
      try clear p2
      try clear c3
      try clear c3b0
      try clear c3b1
      try clear c3b2
      obtain ⟨x5_1, rfl, HA, HK1, ⟨m1, rfl⟩⟩ := hrel
      cases gk with
      | zero => exact absurd HA.out (by simp [dovecoteref07_Same.l0])
      | succ k1 =>
        have H := HA.out
        clear HA
        simp only [dovecoteref07_Same.l0] at H
        by_cases c4 : x5_1 < (l0.length : Int)
        · rw [if_pos c4] at H
          have c4b0 : decide (x5_1 < (l0.length : Int)) = true := decide_eq_true c4
          clear c4
          by_cases c5 : 0 ≤ x5_1
          · rw [if_pos c5] at H
            have c5b0 : decide (0 ≤ x5_1) = true := decide_eq_true c5
            clear c5
            by_cases c6 : x5_1 < (l1.length : Int)
            · rw [if_pos c6] at H
              have c6b0 : decide (x5_1 < (l1.length : Int)) = true := decide_eq_true c6
              clear c6
              by_cases c7 : ((!(((rd_T31 l0 x5_1).f0.f0) == ((rd_T31 l1 x5_1).f0.f0)) || (!(((rd_T31 l0 x5_1).f0.f1) == ((rd_T31 l1 x5_1).f0.f1)))) || ((!(((rd_T31 l0 x5_1).f1.f0) == ((rd_T31 l1 x5_1).f1.f0)) || (!(((rd_T31 l0 x5_1).f1.f1) == ((rd_T31 l1 x5_1).f1.f1)))) || (!((((rd_T31 l0 x5_1).f2).toList) == (((rd_T31 l1 x5_1).f2).toList)) || (!(((rd_T31 l0 x5_1).f3) == ((rd_T31 l1 x5_1).f3)))))) = true
              · rw [if_pos c7] at H
                have c7b0 : ((!(((rd_T31 l0 x5_1).f0.f0) == ((rd_T31 l1 x5_1).f0.f0)) || (!(((rd_T31 l0 x5_1).f0.f1) == ((rd_T31 l1 x5_1).f0.f1)))) || ((!(((rd_T31 l0 x5_1).f1.f0) == ((rd_T31 l1 x5_1).f1.f0)) || (!(((rd_T31 l0 x5_1).f1.f1) == ((rd_T31 l1 x5_1).f1.f1)))) || (!((((rd_T31 l0 x5_1).f2).toList) == (((rd_T31 l1 x5_1).f2).toList)) || (!(((rd_T31 l0 x5_1).f3) == ((rd_T31 l1 x5_1).f3)))))) = true := c7
                clear c7
                obtain rfl := Option.some.inj H
                have p144 : 0 ≤ (x5_1 : Int) := of_decide_eq_true (by first | (with_reducible assumption) | assumption)
                have q144 : x5_1 < (l0.length : Int) := of_decide_eq_true (by first | (with_reducible assumption) | assumption)
                obtain ⟨ad144, e144, hx144_0, hx144_1, hx144_2, hx144_3, hx144_4, hx144_5⟩ := at_T31 HR0.out x5_1 p144 q144
                cases e144
                replace p144 := eq_true p144
                replace q144 := eq_true q144
                have p145 : 0 ≤ (x5_1 : Int) := of_decide_eq_true (by first | (with_reducible assumption) | assumption)
                have q145 : x5_1 < (l1.length : Int) := of_decide_eq_true (by first | (with_reducible assumption) | assumption)
                obtain ⟨ad145, e145, hx145_0, hx145_1, hx145_2, hx145_3, hx145_4, hx145_5⟩ := at_T31 HR1.out x5_1 p145 q145
                cases e145
                replace p145 := eq_true p145
                replace q145 := eq_true q145
                go_wp2
                repeat (go_quiet (fail); try go_wp2)
                go_ret
                exact ⟨by first | rfl | (simp; done) | (simp [*]; done), by repeat (first | exact Drawn0.refl _ | apply Drawn0.step)⟩
              · rw [if_neg c7] at H
                have c7b0 : ((!(((rd_T31 l0 x5_1).f0.f0) == ((rd_T31 l1 x5_1).f0.f0)) || (!(((rd_T31 l0 x5_1).f0.f1) == ((rd_T31 l1 x5_1).f0.f1)))) || ((!(((rd_T31 l0 x5_1).f1.f0) == ((rd_T31 l1 x5_1).f1.f0)) || (!(((rd_T31 l0 x5_1).f1.f1) == ((rd_T31 l1 x5_1).f1.f1)))) || (!((((rd_T31 l0 x5_1).f2).toList) == (((rd_T31 l1 x5_1).f2).toList)) || (!(((rd_T31 l0 x5_1).f3) == ((rd_T31 l1 x5_1).f3)))))) = false := by simpa using c7
                clear c7
                have H' := Aside0.mk H
                clear H
                have p144 : 0 ≤ (x5_1 : Int) := of_decide_eq_true (by first | (with_reducible assumption) | assumption)
                have q144 : x5_1 < (l0.length : Int) := of_decide_eq_true (by first | (with_reducible assumption) | assumption)
                obtain ⟨ad144, e144, hx144_0, hx144_1, hx144_2, hx144_3, hx144_4, hx144_5⟩ := at_T31 HR0.out x5_1 p144 q144
                cases e144
                replace p144 := eq_true p144
                replace q144 := eq_true q144
                have p145 : 0 ≤ (x5_1 : Int) := of_decide_eq_true (by first | (with_reducible assumption) | assumption)
                have q145 : x5_1 < (l1.length : Int) := of_decide_eq_true (by first | (with_reducible assumption) | assumption)
                obtain ⟨ad145, e145, hx145_0, hx145_1, hx145_2, hx145_3, hx145_4, hx145_5⟩ := at_T31 HR1.out x5_1 p145 q145
                cases e145
                replace p145 := eq_true p145
                replace q145 := eq_true q145
                go_wp2
                repeat (go_quiet (fail); try go_wp2)
                go_roundg k1
                case measure => have := HK1.out; omega
                case rel => exact ⟨(wrap64 (x5_1 + 1)), (by first | rfl | (simp; done) | (simp [*]; done)), H', ⟨by have := HK1.out; omega⟩, by repeat (first | exact Drawn0.refl _ | apply Drawn0.step)⟩
            · rw [if_neg c6] at H
              exact absurd H (by simp)
          · rw [if_neg c5] at H
            exact absurd H (by simp)
        · rw [if_neg c4] at H
          have c4b0 : decide (x5_1 < (l0.length : Int)) = false := decide_eq_false c4
          clear c4
          obtain rfl := Option.some.inj H
          go_wp2
          repeat (go_quiet (fail); try go_wp2)
          go_ret
          exact ⟨by first | rfl | (simp; done) | (simp [*]; done), by repeat (first | exact Drawn0.refl _ | apply Drawn0.step)⟩
  · rw [if_neg c3] at H
    have c3b0 : ((l0.length : Int) == (l1.length : Int)) = false := beq_eq_false_iff_ne.mpr c3
    have c3b1 : ((l0.length : Int) != (l1.length : Int)) = true := bne_iff_ne.mpr c3
    have c3b2 : (l0.length == l1.length) = false := by first | simpa using c3 | (simp at c3 ⊢; omega)
    obtain rfl := Option.some.inj H
    go_enter Try.func14, Try.ntmps14
    go_wp2
    repeat (go_quiet (fail); try go_wp2)
    go_ret
    exact ⟨by first | rfl | (simp; done) | (simp [*]; done), by repeat (first | exact Drawn0.refl _ | apply Drawn0.step)⟩

/-! ### dovecotelaw07_built: function 15 -/
def dovecotelaw07_built.l0 : Nat → List (S31) → List (S31) → Int → Int → Option ((List (S31)))
  | 0, _, _, _, _ => none
  | k + 1, x3, x8, x9, x10 => if x10 < x9 then (if 0 ≤ x10 then (if x10 < (x8.length : Int) then ((chain_Put.f k x3 ((rd_T31 x8 x10).f0.f0) ((rd_T31 x8 x10).f0.f1) ((rd_T31 x8 x10).f1.f0) ((rd_T31 x8 x10).f1.f1) ((rd_T31 x8 x10).f2) ((rd_T31 x8 x10).f3)).bind fun bt148 => (if bt148.2 = 0 then (dovecotelaw07_built.l0 k bt148.1 x8 x9 (wrap64 (x10 + 1))) else (dovecotelaw07_built.l0 k x3 x8 x9 (wrap64 (x10 + 1))))) else (none)) else (none)) else (some x3)
def dovecotelaw07_built.f (k : Nat) (l0 : List (S31)) : Option ((List (S31))) := dovecotelaw07_built.l0 k ([] : List (S31)) l0 (l0.length : Int) 0
theorem dovecotelaw07_built.mono_l : ∀ k, (∀ y0 y1 y2 y3, LeO (dovecotelaw07_built.l0 k y0 y1 y2 y3) (dovecotelaw07_built.l0 (k + 1) y0 y1 y2 y3))
  | 0 => fun _ _ _ _ r h => by simp [dovecotelaw07_built.l0] at h
  | k + 1 => by
    have ih0 := dovecotelaw07_built.mono_l k
    · intro y0 y1 y2 y3
      unfold dovecotelaw07_built.l0
      repeat' first
      | (with_reducible exact ih0 _ _ _ _)
      | (with_reducible exact chain_Put.mono _ _ _ _ _ _ _ _)
      | (with_reducible exact LeO.refl _)
      | (with_reducible exact LeO.none _)
      | (with_reducible refine LeO.ite ?_ ?_)
      | (with_reducible refine LeO.bind ?_ (fun _ => ?_))
      | exact ih0 _ _ _ _
      | exact chain_Put.mono _ _ _ _ _ _ _ _
      | exact LeO.none _
      | refine LeO.ite ?_ ?_
      | refine LeO.bind ?_ (fun _ => ?_)
theorem dovecotelaw07_built.mono : ∀ a0 k, LeO (dovecotelaw07_built.f k a0) (dovecotelaw07_built.f (k + 1) a0) := by
  intro a0 k
  have ih0 := dovecotelaw07_built.mono_l k
  unfold dovecotelaw07_built.f
  repeat' first
      | (with_reducible exact ih0 _ _ _ _)
      | (with_reducible exact chain_Put.mono _ _ _ _ _ _ _ _)
      | (with_reducible exact LeO.refl _)
      | (with_reducible exact LeO.none _)
      | (with_reducible refine LeO.ite ?_ ?_)
      | (with_reducible refine LeO.bind ?_ (fun _ => ?_))
      | exact ih0 _ _ _ _
      | exact chain_Put.mono _ _ _ _ _ _ _ _
      | exact LeO.none _
      | refine LeO.ite ?_ ?_
      | refine LeO.bind ?_ (fun _ => ?_)
set_option maxHeartbeats 8000000 in
set_option maxRecDepth 100000 in
theorem dovecotelaw07_built.calls (k : Nat) (A0 : Option Addr) (c0 : Nat) (l0 : List (S31)) (r : List (S31)) (w : World) (hr0 : Kd.C k31 w A0 l0.length l0) (hc0 : l0.length ≤ c0) (h : dovecotelaw07_built.f k l0 = some r) :
    Calls Try.prog 15 #[.slice A0 l0.length c0] w fun e w' => ∃ v0_ : Value, e = .returned (v0_) ∧ Kd.R k31 31 w' w.heap.size (fun _ => True) v0_ r ∧ Below w.heap.size w w' := by
  have hu31 := Try.underlying31
  have HR0 := Aside0.mk hr0
  have HC0 := Aside0.mk hc0
  clear hr0 hc0
  have HB := Aside0.mk (Below.refl w.heap.size w)
  have H : (dovecotelaw07_built.l0 k ([] : List (S31)) l0 (l0.length : Int) 0) = some r := h
  clear h
  have H' := Aside0.mk H
  clear H
  go_enter Try.func15, Try.ntmps15
  go_wp2
  go_loopg [3, 10] k (fun kq v3 v10 w' => ∃ (x3_1 : List (S31)) (x10_1 : Int), v10 = .int .i64 x10_1 ∧ Aside0 (dovecotelaw07_built.l0 kq x3_1 l0 (l0.length : Int) x10_1 = some r) ∧ Aside0 (kq ≤ k) ∧ Aside0 (Kd.R k31 31 w' w.heap.size (fun _ => True) v3 x3_1) ∧ Aside0 (Below w.heap.size w w'))
  case atStart => exact ⟨(([] : List (S31))), (0), (by first | rfl | (simp; done) | (simp [*]; done)), H', ⟨Nat.le_refl _⟩, ⟨by first | exact Kd.R_nil _ _ _ _ _ | exact Kd.N_nil _ _ _ _ _ | exact Kd.V_nil _ _ _ _ _ | exact Kd.Q_nil _ _ _ _ _ | exact Kd.S_nil _ _ _ _ _⟩, ⟨by repeat (first | (with_reducible first | exact HB.out | apply below_alloc | apply pw_below_drewN | apply below_drew1) | exact HB.out)⟩⟩
  case round =>
    clear H'
    try clear c1
    obtain ⟨x3_1, x10_1, rfl, HA, HK1, HO_3, HB⟩ := hrel
    cases gk with
    | zero => exact absurd HA.out (by simp [dovecotelaw07_built.l0])
    | succ k1 =>
      have H := HA.out
      clear HA
      simp only [dovecotelaw07_built.l0] at H
      by_cases c2 : x10_1 < (l0.length : Int)
      · rw [if_pos c2] at H
        have c2b0 : decide (x10_1 < (l0.length : Int)) = true := decide_eq_true c2
        clear c2
        by_cases c3 : 0 ≤ x10_1
        · rw [if_pos c3] at H
          have c3b0 : decide (0 ≤ x10_1) = true := decide_eq_true c3
          clear c3
          by_cases c4 : x10_1 < (l0.length : Int)
          · rw [if_pos c4] at H
            have c4b0 : decide (x10_1 < (l0.length : Int)) = true := decide_eq_true c4
            clear c4
            replace H := Option.bind_eq_some_iff.mp H
            obtain ⟨⟨t148, t151⟩, A50, H⟩ := H
            replace H : (if t151 = 0 then (dovecotelaw07_built.l0 k1 t148 l0 (l0.length : Int) (wrap64 (x10_1 + 1))) else (dovecotelaw07_built.l0 k1 x3_1 l0 (l0.length : Int) (wrap64 (x10_1 + 1)))) = some r := H
            have A5 := Aside0.mk A50
            clear A50
            by_cases c6 : t151 = 0
            · rw [if_pos c6] at H
              have c6b0 : (t151 == 0) = true := beq_iff_eq.mpr c6
              have c6b1 : (t151 != 0) = false := bne_eq_false_iff_eq.mpr c6
              clear c6
              have H' := Aside0.mk H
              clear H
              have p146 : 0 ≤ (x10_1 : Int) := of_decide_eq_true (by first | (with_reducible assumption) | assumption)
              have q146 : x10_1 < (l0.length : Int) := of_decide_eq_true (by first | (with_reducible assumption) | assumption)
              obtain ⟨ad146, e146, hx146_0, hx146_1, hx146_2, hx146_3, hx146_4, hx146_5⟩ := at_T31 HR0.out x10_1 p146 q146
              cases e146
              replace hx146_0 := (HB.out.cell (World.block_lt_of_cell? w _ hx146_0)).trans hx146_0
              replace hx146_1 := (HB.out.cell (World.block_lt_of_cell? w _ hx146_1)).trans hx146_1
              replace hx146_2 := (HB.out.cell (World.block_lt_of_cell? w _ hx146_2)).trans hx146_2
              replace hx146_3 := (HB.out.cell (World.block_lt_of_cell? w _ hx146_3)).trans hx146_3
              replace hx146_4 := (HB.out.cell (World.block_lt_of_cell? w _ hx146_4)).trans hx146_4
              replace hx146_5 := (HB.out.cell (World.block_lt_of_cell? w _ hx146_5)).trans hx146_5
              replace p146 := eq_true p146
              replace q146 := eq_true q146
              go_wp2_with (first | ((with_reducible refine gate_dst (N := 5) rfl ?_); refine box_event ?hg (N := 5) ?hd (cs := #[.int .u64 0, .int .u32 0, .int .u32 0, .int .u32 0, .string (⟨#[]⟩ : ByteArray), .bool false]) (t := 31) ?hr ?_; (case hd => rfl); (case hg => rfl); (case hr => first | (go_simp; done) | (go_simp; rfl)); intro gb147 hg w7 hbox hb; have n0_ := Aside0.mk (Kd.R_below (Kd.R_elderB (by (with_reducible repeat (first | apply Kd.R_alloc | apply Kd.R_drewN | apply Kd.R_drew)); exact HO_3.out) gb147 (Nat.le_of_eq hg.symm)) hb); have n1_ := Aside0.mk (below_step (by repeat (first | (with_reducible first | exact HB.out | apply below_alloc | apply pw_below_drewN | apply below_drew1) | exact HB.out)) hb); have n2_ := Aside0.mk (hbox); have n3_ := Aside0.mk ((by rw [hg]; exact (below_size (by repeat (first | (with_reducible first | exact HB.out | apply below_alloc | apply pw_below_drewN | apply below_drew1) | exact HB.out))) : w.heap.size ≤ gb147)); have n4_ := Aside0.mk ((by rw [hg]; exact (below_size (by repeat (first | (with_reducible first | exact HB.out | apply below_alloc | apply pw_below_drewN | apply below_drew1) | exact HB.out))) : w.heap.size ≤ gb147)); clear HO_3; clear HB; have HO_3 := n0_; have HB := n1_; have BK147 := n2_; have GW147 := n3_; have GE147 := n4_; clear n0_ n1_ n2_ n3_ n4_; clear hb hbox hg; have hcz8_0 : w7.cell? ⟨gb147, 0, none⟩ = some (.int .u64 0) := (blk_cell BK147.out 0).trans rfl; have hcz8_1 : w7.cell? ⟨gb147, 1, none⟩ = some (.int .u32 0) := (blk_cell BK147.out 1).trans rfl; have hcz8_2 : w7.cell? ⟨gb147, 2, none⟩ = some (.int .u32 0) := (blk_cell BK147.out 2).trans rfl; have hcz8_3 : w7.cell? ⟨gb147, 3, none⟩ = some (.int .u32 0) := (blk_cell BK147.out 3).trans rfl; have hcz8_4 : w7.cell? ⟨gb147, 4, none⟩ = some (.string (⟨#[]⟩ : ByteArray)) := (blk_cell BK147.out 4).trans rfl; have hcz8_5 : w7.cell? ⟨gb147, 5, none⟩ = some (.bool false) := (blk_cell BK147.out 5).trans rfl; have hfz8_0 := blk_frozen BK147.out 0; have hfz8_1 := blk_frozen BK147.out 1; have hfz8_2 := blk_frozen BK147.out 2; have hfz8_3 := blk_frozen BK147.out 3; have hfz8_4 := blk_frozen BK147.out 4; have hfz8_5 := blk_frozen BK147.out 5; obtain ⟨Ao9, co9, eo9⟩ := Kd.R_slice HO_3.out; subst eo9) | ((with_reducible refine gate_callee (f := 17) rfl ?_); refine goesL_ (some 17) rfl rfl Try.func17 (by kernel_rfl) rfl #[.slice Ao9 x3_1.length co9, .agg #[.int .u64 ((rd_T31 l0 x10_1).f0.f0), .int .u32 ((rd_T31 l0 x10_1).f0.f1), .int .u32 ((rd_T31 l0 x10_1).f1.f0), .int .u32 ((rd_T31 l0 x10_1).f1.f1), .string ((rd_T31 l0 x10_1).f2), .bool ((rd_T31 l0 x10_1).f3)]] rfl (by (try simp only [List.map_toArray, List.map_cons, List.map_nil]); first | done | rfl | (simp only [List.length_drop, List.length_take]; rfl)) ?_; (with_reducible refine (chain_Put.calls k1 _ _ x3_1 ((rd_T31 l0 x10_1).f0.f0) ((rd_T31 l0 x10_1).f0.f1) ((rd_T31 l0 x10_1).f1.f0) ((rd_T31 l0 x10_1).f1.f1) ((rd_T31 l0 x10_1).f2) ((rd_T31 l0 x10_1).f3) t148 t151 _ ?side1 ?side2 A5.out).mono ?_); (case side1 => refine (Kd.R_reads' (e := 31) (base := w.heap.size) (ok := fun k_ => (True ∧ k_ ≠ gb147)) (n := x3_1.length) (c := co9) ?_).2.2; exact (by (with_reducible repeat (first | apply Kd.R_alloc | apply Kd.R_drewN | apply Kd.R_drew)); exact (Kd.R_mono (Kd.R_far (p := ⟨gb147, 5, none⟩) (Kd.R_far (p := ⟨gb147, 4, none⟩) (Kd.R_far (p := ⟨gb147, 3, none⟩) (Kd.R_far (p := ⟨gb147, 2, none⟩) (Kd.R_far (p := ⟨gb147, 1, none⟩) (Kd.R_far (p := ⟨gb147, 0, none⟩) (Kd.R_mono HO_3.out (fun k_ hk => (⟨hk, hk.2⟩ : _ ∧ k_ ≠ gb147))) (fun _ hk => hk.2) (.int .u64 ((rd_T31 l0 x10_1).f0.f0))) (fun _ hk => hk.2) (.int .u32 ((rd_T31 l0 x10_1).f0.f1))) (fun _ hk => hk.2) (.int .u32 ((rd_T31 l0 x10_1).f1.f0))) (fun _ hk => hk.2) (.int .u32 ((rd_T31 l0 x10_1).f1.f1))) (fun _ hk => hk.2) (.string ((rd_T31 l0 x10_1).f2))) (fun _ hk => hk.2) (.bool ((rd_T31 l0 x10_1).f3))) (fun _ h_ => h_.1)))); (case side2 => exact (Kd.R_reads' HO_3.out).2.1); rintro e w10 ⟨v149, rfl, ho0, hb⟩; refine ⟨_, rfl, ?_⟩; have n0_ := Aside0.mk (Kd.R_elder' (by (with_reducible repeat (first | apply Kd.R_alloc | apply Kd.R_drewN | apply Kd.R_drew)); exact (Kd.R_mono (Kd.R_far (p := ⟨gb147, 5, none⟩) (Kd.R_far (p := ⟨gb147, 4, none⟩) (Kd.R_far (p := ⟨gb147, 3, none⟩) (Kd.R_far (p := ⟨gb147, 2, none⟩) (Kd.R_far (p := ⟨gb147, 1, none⟩) (Kd.R_far (p := ⟨gb147, 0, none⟩) (Kd.R_mono HO_3.out (fun k_ hk => (⟨hk, hk.2⟩ : _ ∧ k_ ≠ gb147))) (fun _ hk => hk.2) (.int .u64 ((rd_T31 l0 x10_1).f0.f0))) (fun _ hk => hk.2) (.int .u32 ((rd_T31 l0 x10_1).f0.f1))) (fun _ hk => hk.2) (.int .u32 ((rd_T31 l0 x10_1).f1.f0))) (fun _ hk => hk.2) (.int .u32 ((rd_T31 l0 x10_1).f1.f1))) (fun _ hk => hk.2) (.string ((rd_T31 l0 x10_1).f2))) (fun _ hk => hk.2) (.bool ((rd_T31 l0 x10_1).f3))) (fun _ h_ => h_.1))) (Kd.R_base ho0) hb); have n1_ := Aside0.mk (Kd.R_lower (Kd.R_newB (Kd.R_new' ho0 (Kd.R_lt (by (with_reducible repeat (first | apply Kd.R_alloc | apply Kd.R_drewN | apply Kd.R_drew)); exact (Kd.R_mono (Kd.R_far (p := ⟨gb147, 5, none⟩) (Kd.R_far (p := ⟨gb147, 4, none⟩) (Kd.R_far (p := ⟨gb147, 3, none⟩) (Kd.R_far (p := ⟨gb147, 2, none⟩) (Kd.R_far (p := ⟨gb147, 1, none⟩) (Kd.R_far (p := ⟨gb147, 0, none⟩) (Kd.R_mono HO_3.out (fun k_ hk => (⟨hk, hk.2⟩ : _ ∧ k_ ≠ gb147))) (fun _ hk => hk.2) (.int .u64 ((rd_T31 l0 x10_1).f0.f0))) (fun _ hk => hk.2) (.int .u32 ((rd_T31 l0 x10_1).f0.f1))) (fun _ hk => hk.2) (.int .u32 ((rd_T31 l0 x10_1).f1.f0))) (fun _ hk => hk.2) (.int .u32 ((rd_T31 l0 x10_1).f1.f1))) (fun _ hk => hk.2) (.string ((rd_T31 l0 x10_1).f2))) (fun _ hk => hk.2) (.bool ((rd_T31 l0 x10_1).f3))) (fun _ h_ => h_.1))))) (g := gb147) (o := .cells #[.int .u64 ((rd_T31 l0 x10_1).f0.f0), .int .u32 ((rd_T31 l0 x10_1).f0.f1), .int .u32 ((rd_T31 l0 x10_1).f1.f0), .int .u32 ((rd_T31 l0 x10_1).f1.f1), .string ((rd_T31 l0 x10_1).f2), .bool ((rd_T31 l0 x10_1).f3)] 31 (0, 0)) (by (with_reducible repeat (first | refine blk_drewN ?_ _ | refine blk_drew ?_ | refine blk_alloc ?_ _)); refine blk_put (cs := #[.int .u64 ((rd_T31 l0 x10_1).f0.f0), .int .u32 ((rd_T31 l0 x10_1).f0.f1), .int .u32 ((rd_T31 l0 x10_1).f1.f0), .int .u32 ((rd_T31 l0 x10_1).f1.f1), .string ((rd_T31 l0 x10_1).f2), .bool false]) ?_ 5 _ rfl; (with_reducible repeat (first | refine blk_drewN ?_ _ | refine blk_drew ?_ | refine blk_alloc ?_ _)); refine blk_put (cs := #[.int .u64 ((rd_T31 l0 x10_1).f0.f0), .int .u32 ((rd_T31 l0 x10_1).f0.f1), .int .u32 ((rd_T31 l0 x10_1).f1.f0), .int .u32 ((rd_T31 l0 x10_1).f1.f1), .string (⟨#[]⟩ : ByteArray), .bool false]) ?_ 4 _ rfl; (with_reducible repeat (first | refine blk_drewN ?_ _ | refine blk_drew ?_ | refine blk_alloc ?_ _)); refine blk_put (cs := #[.int .u64 ((rd_T31 l0 x10_1).f0.f0), .int .u32 ((rd_T31 l0 x10_1).f0.f1), .int .u32 ((rd_T31 l0 x10_1).f1.f0), .int .u32 0, .string (⟨#[]⟩ : ByteArray), .bool false]) ?_ 3 _ rfl; (with_reducible repeat (first | refine blk_drewN ?_ _ | refine blk_drew ?_ | refine blk_alloc ?_ _)); refine blk_put (cs := #[.int .u64 ((rd_T31 l0 x10_1).f0.f0), .int .u32 ((rd_T31 l0 x10_1).f0.f1), .int .u32 0, .int .u32 0, .string (⟨#[]⟩ : ByteArray), .bool false]) ?_ 2 _ rfl; (with_reducible repeat (first | refine blk_drewN ?_ _ | refine blk_drew ?_ | refine blk_alloc ?_ _)); refine blk_put (cs := #[.int .u64 ((rd_T31 l0 x10_1).f0.f0), .int .u32 0, .int .u32 0, .int .u32 0, .string (⟨#[]⟩ : ByteArray), .bool false]) ?_ 1 _ rfl; (with_reducible repeat (first | refine blk_drewN ?_ _ | refine blk_drew ?_ | refine blk_alloc ?_ _)); refine blk_put (cs := #[.int .u64 0, .int .u32 0, .int .u32 0, .int .u32 0, .string (⟨#[]⟩ : ByteArray), .bool false]) ?_ 0 _ rfl; (with_reducible repeat (first | refine blk_drewN ?_ _ | refine blk_drew ?_ | refine blk_alloc ?_ _)); exact BK147.out)) (below_size (by repeat (first | (with_reducible first | exact HB.out | apply below_alloc | apply pw_below_drewN | apply below_drew1 | refine below_set ?_ GE147.out) | exact HB.out)))); have n2_ := Aside0.mk (blk_below (g := gb147) (o := .cells #[.int .u64 ((rd_T31 l0 x10_1).f0.f0), .int .u32 ((rd_T31 l0 x10_1).f0.f1), .int .u32 ((rd_T31 l0 x10_1).f1.f0), .int .u32 ((rd_T31 l0 x10_1).f1.f1), .string ((rd_T31 l0 x10_1).f2), .bool ((rd_T31 l0 x10_1).f3)] 31 (0, 0)) (by (with_reducible repeat (first | refine blk_drewN ?_ _ | refine blk_drew ?_ | refine blk_alloc ?_ _)); refine blk_put (cs := #[.int .u64 ((rd_T31 l0 x10_1).f0.f0), .int .u32 ((rd_T31 l0 x10_1).f0.f1), .int .u32 ((rd_T31 l0 x10_1).f1.f0), .int .u32 ((rd_T31 l0 x10_1).f1.f1), .string ((rd_T31 l0 x10_1).f2), .bool false]) ?_ 5 _ rfl; (with_reducible repeat (first | refine blk_drewN ?_ _ | refine blk_drew ?_ | refine blk_alloc ?_ _)); refine blk_put (cs := #[.int .u64 ((rd_T31 l0 x10_1).f0.f0), .int .u32 ((rd_T31 l0 x10_1).f0.f1), .int .u32 ((rd_T31 l0 x10_1).f1.f0), .int .u32 ((rd_T31 l0 x10_1).f1.f1), .string (⟨#[]⟩ : ByteArray), .bool false]) ?_ 4 _ rfl; (with_reducible repeat (first | refine blk_drewN ?_ _ | refine blk_drew ?_ | refine blk_alloc ?_ _)); refine blk_put (cs := #[.int .u64 ((rd_T31 l0 x10_1).f0.f0), .int .u32 ((rd_T31 l0 x10_1).f0.f1), .int .u32 ((rd_T31 l0 x10_1).f1.f0), .int .u32 0, .string (⟨#[]⟩ : ByteArray), .bool false]) ?_ 3 _ rfl; (with_reducible repeat (first | refine blk_drewN ?_ _ | refine blk_drew ?_ | refine blk_alloc ?_ _)); refine blk_put (cs := #[.int .u64 ((rd_T31 l0 x10_1).f0.f0), .int .u32 ((rd_T31 l0 x10_1).f0.f1), .int .u32 0, .int .u32 0, .string (⟨#[]⟩ : ByteArray), .bool false]) ?_ 2 _ rfl; (with_reducible repeat (first | refine blk_drewN ?_ _ | refine blk_drew ?_ | refine blk_alloc ?_ _)); refine blk_put (cs := #[.int .u64 ((rd_T31 l0 x10_1).f0.f0), .int .u32 0, .int .u32 0, .int .u32 0, .string (⟨#[]⟩ : ByteArray), .bool false]) ?_ 1 _ rfl; (with_reducible repeat (first | refine blk_drewN ?_ _ | refine blk_drew ?_ | refine blk_alloc ?_ _)); refine blk_put (cs := #[.int .u64 0, .int .u32 0, .int .u32 0, .int .u32 0, .string (⟨#[]⟩ : ByteArray), .bool false]) ?_ 0 _ rfl; (with_reducible repeat (first | refine blk_drewN ?_ _ | refine blk_drew ?_ | refine blk_alloc ?_ _)); exact BK147.out) hb); have n3_ := Aside0.mk (below_step (by repeat (first | (with_reducible first | exact HB.out | apply below_alloc | apply pw_below_drewN | apply below_drew1 | refine below_set ?_ GE147.out) | exact HB.out)) hb); clear HO_3; clear BK147; clear HB; have HO_3 := n0_; have HO150 := n1_; have BK147 := n2_; have HB := n3_; clear n0_ n1_ n2_ n3_; (try clear hb); (try clear hb2); (try clear hk); (try clear hi); (try clear ho0)))
              go_roundg k1
              case measure => have := HK1.out; omega
              case rel => exact ⟨(t148), (wrap64 (x10_1 + 1)), (by first | rfl | (simp; done) | (simp [*]; done)), H', ⟨by have := HK1.out; omega⟩, ⟨by (with_reducible repeat (first | apply Kd.R_alloc | apply Kd.R_drewN | apply Kd.R_drew)); exact Kd.R_mono HO150.out (fun _ hk => trivial)⟩, ⟨by repeat (first | (with_reducible first | exact HB.out | apply below_alloc | apply pw_below_drewN | apply below_drew1 | refine below_set ?_ GE147.out) | exact HB.out)⟩⟩
            · rw [if_neg c6] at H
              have c6b0 : (t151 == 0) = false := beq_eq_false_iff_ne.mpr c6
              have c6b1 : (t151 != 0) = true := bne_iff_ne.mpr c6
              have H' := Aside0.mk H
              clear H
              have p146 : 0 ≤ (x10_1 : Int) := of_decide_eq_true (by first | (with_reducible assumption) | assumption)
              have q146 : x10_1 < (l0.length : Int) := of_decide_eq_true (by first | (with_reducible assumption) | assumption)
              obtain ⟨ad146, e146, hx146_0, hx146_1, hx146_2, hx146_3, hx146_4, hx146_5⟩ := at_T31 HR0.out x10_1 p146 q146
              cases e146
              replace hx146_0 := (HB.out.cell (World.block_lt_of_cell? w _ hx146_0)).trans hx146_0
              replace hx146_1 := (HB.out.cell (World.block_lt_of_cell? w _ hx146_1)).trans hx146_1
              replace hx146_2 := (HB.out.cell (World.block_lt_of_cell? w _ hx146_2)).trans hx146_2
              replace hx146_3 := (HB.out.cell (World.block_lt_of_cell? w _ hx146_3)).trans hx146_3
              replace hx146_4 := (HB.out.cell (World.block_lt_of_cell? w _ hx146_4)).trans hx146_4
              replace hx146_5 := (HB.out.cell (World.block_lt_of_cell? w _ hx146_5)).trans hx146_5
              replace p146 := eq_true p146
              replace q146 := eq_true q146
              go_wp2_with (first | ((with_reducible refine gate_dst (N := 5) rfl ?_); refine box_event ?hg (N := 5) ?hd (cs := #[.int .u64 0, .int .u32 0, .int .u32 0, .int .u32 0, .string (⟨#[]⟩ : ByteArray), .bool false]) (t := 31) ?hr ?_; (case hd => rfl); (case hg => rfl); (case hr => first | (go_simp; done) | (go_simp; rfl)); intro gb147 hg w11 hbox hb; have n0_ := Aside0.mk (Kd.R_below (Kd.R_elderB (by (with_reducible repeat (first | apply Kd.R_alloc | apply Kd.R_drewN | apply Kd.R_drew)); exact HO_3.out) gb147 (Nat.le_of_eq hg.symm)) hb); have n1_ := Aside0.mk (below_step (by repeat (first | (with_reducible first | exact HB.out | apply below_alloc | apply pw_below_drewN | apply below_drew1) | exact HB.out)) hb); have n2_ := Aside0.mk (hbox); have n3_ := Aside0.mk ((by rw [hg]; exact (below_size (by repeat (first | (with_reducible first | exact HB.out | apply below_alloc | apply pw_below_drewN | apply below_drew1) | exact HB.out))) : w.heap.size ≤ gb147)); have n4_ := Aside0.mk ((by rw [hg]; exact (below_size (by repeat (first | (with_reducible first | exact HB.out | apply below_alloc | apply pw_below_drewN | apply below_drew1) | exact HB.out))) : w.heap.size ≤ gb147)); clear HO_3; clear HB; have HO_3 := n0_; have HB := n1_; have BK147 := n2_; have GW147 := n3_; have GE147 := n4_; clear n0_ n1_ n2_ n3_ n4_; clear hb hbox hg; have hcz12_0 : w11.cell? ⟨gb147, 0, none⟩ = some (.int .u64 0) := (blk_cell BK147.out 0).trans rfl; have hcz12_1 : w11.cell? ⟨gb147, 1, none⟩ = some (.int .u32 0) := (blk_cell BK147.out 1).trans rfl; have hcz12_2 : w11.cell? ⟨gb147, 2, none⟩ = some (.int .u32 0) := (blk_cell BK147.out 2).trans rfl; have hcz12_3 : w11.cell? ⟨gb147, 3, none⟩ = some (.int .u32 0) := (blk_cell BK147.out 3).trans rfl; have hcz12_4 : w11.cell? ⟨gb147, 4, none⟩ = some (.string (⟨#[]⟩ : ByteArray)) := (blk_cell BK147.out 4).trans rfl; have hcz12_5 : w11.cell? ⟨gb147, 5, none⟩ = some (.bool false) := (blk_cell BK147.out 5).trans rfl; have hfz12_0 := blk_frozen BK147.out 0; have hfz12_1 := blk_frozen BK147.out 1; have hfz12_2 := blk_frozen BK147.out 2; have hfz12_3 := blk_frozen BK147.out 3; have hfz12_4 := blk_frozen BK147.out 4; have hfz12_5 := blk_frozen BK147.out 5; obtain ⟨Ao13, co13, eo13⟩ := Kd.R_slice HO_3.out; subst eo13) | ((with_reducible refine gate_callee (f := 17) rfl ?_); refine goesL_ (some 17) rfl rfl Try.func17 (by kernel_rfl) rfl #[.slice Ao13 x3_1.length co13, .agg #[.int .u64 ((rd_T31 l0 x10_1).f0.f0), .int .u32 ((rd_T31 l0 x10_1).f0.f1), .int .u32 ((rd_T31 l0 x10_1).f1.f0), .int .u32 ((rd_T31 l0 x10_1).f1.f1), .string ((rd_T31 l0 x10_1).f2), .bool ((rd_T31 l0 x10_1).f3)]] rfl (by (try simp only [List.map_toArray, List.map_cons, List.map_nil]); first | done | rfl | (simp only [List.length_drop, List.length_take]; rfl)) ?_; (with_reducible refine (chain_Put.calls k1 _ _ x3_1 ((rd_T31 l0 x10_1).f0.f0) ((rd_T31 l0 x10_1).f0.f1) ((rd_T31 l0 x10_1).f1.f0) ((rd_T31 l0 x10_1).f1.f1) ((rd_T31 l0 x10_1).f2) ((rd_T31 l0 x10_1).f3) t148 t151 _ ?side1 ?side2 A5.out).mono ?_); (case side1 => refine (Kd.R_reads' (e := 31) (base := w.heap.size) (ok := fun k_ => (True ∧ k_ ≠ gb147)) (n := x3_1.length) (c := co13) ?_).2.2; exact (by (with_reducible repeat (first | apply Kd.R_alloc | apply Kd.R_drewN | apply Kd.R_drew)); exact (Kd.R_mono (Kd.R_far (p := ⟨gb147, 5, none⟩) (Kd.R_far (p := ⟨gb147, 4, none⟩) (Kd.R_far (p := ⟨gb147, 3, none⟩) (Kd.R_far (p := ⟨gb147, 2, none⟩) (Kd.R_far (p := ⟨gb147, 1, none⟩) (Kd.R_far (p := ⟨gb147, 0, none⟩) (Kd.R_mono HO_3.out (fun k_ hk => (⟨hk, hk.2⟩ : _ ∧ k_ ≠ gb147))) (fun _ hk => hk.2) (.int .u64 ((rd_T31 l0 x10_1).f0.f0))) (fun _ hk => hk.2) (.int .u32 ((rd_T31 l0 x10_1).f0.f1))) (fun _ hk => hk.2) (.int .u32 ((rd_T31 l0 x10_1).f1.f0))) (fun _ hk => hk.2) (.int .u32 ((rd_T31 l0 x10_1).f1.f1))) (fun _ hk => hk.2) (.string ((rd_T31 l0 x10_1).f2))) (fun _ hk => hk.2) (.bool ((rd_T31 l0 x10_1).f3))) (fun _ h_ => h_.1)))); (case side2 => exact (Kd.R_reads' HO_3.out).2.1); rintro e w14 ⟨v149, rfl, ho0, hb⟩; refine ⟨_, rfl, ?_⟩; have n0_ := Aside0.mk (Kd.R_elder' (by (with_reducible repeat (first | apply Kd.R_alloc | apply Kd.R_drewN | apply Kd.R_drew)); exact (Kd.R_mono (Kd.R_far (p := ⟨gb147, 5, none⟩) (Kd.R_far (p := ⟨gb147, 4, none⟩) (Kd.R_far (p := ⟨gb147, 3, none⟩) (Kd.R_far (p := ⟨gb147, 2, none⟩) (Kd.R_far (p := ⟨gb147, 1, none⟩) (Kd.R_far (p := ⟨gb147, 0, none⟩) (Kd.R_mono HO_3.out (fun k_ hk => (⟨hk, hk.2⟩ : _ ∧ k_ ≠ gb147))) (fun _ hk => hk.2) (.int .u64 ((rd_T31 l0 x10_1).f0.f0))) (fun _ hk => hk.2) (.int .u32 ((rd_T31 l0 x10_1).f0.f1))) (fun _ hk => hk.2) (.int .u32 ((rd_T31 l0 x10_1).f1.f0))) (fun _ hk => hk.2) (.int .u32 ((rd_T31 l0 x10_1).f1.f1))) (fun _ hk => hk.2) (.string ((rd_T31 l0 x10_1).f2))) (fun _ hk => hk.2) (.bool ((rd_T31 l0 x10_1).f3))) (fun _ h_ => h_.1))) (Kd.R_base ho0) hb); have n1_ := Aside0.mk (Kd.R_lower (Kd.R_newB (Kd.R_new' ho0 (Kd.R_lt (by (with_reducible repeat (first | apply Kd.R_alloc | apply Kd.R_drewN | apply Kd.R_drew)); exact (Kd.R_mono (Kd.R_far (p := ⟨gb147, 5, none⟩) (Kd.R_far (p := ⟨gb147, 4, none⟩) (Kd.R_far (p := ⟨gb147, 3, none⟩) (Kd.R_far (p := ⟨gb147, 2, none⟩) (Kd.R_far (p := ⟨gb147, 1, none⟩) (Kd.R_far (p := ⟨gb147, 0, none⟩) (Kd.R_mono HO_3.out (fun k_ hk => (⟨hk, hk.2⟩ : _ ∧ k_ ≠ gb147))) (fun _ hk => hk.2) (.int .u64 ((rd_T31 l0 x10_1).f0.f0))) (fun _ hk => hk.2) (.int .u32 ((rd_T31 l0 x10_1).f0.f1))) (fun _ hk => hk.2) (.int .u32 ((rd_T31 l0 x10_1).f1.f0))) (fun _ hk => hk.2) (.int .u32 ((rd_T31 l0 x10_1).f1.f1))) (fun _ hk => hk.2) (.string ((rd_T31 l0 x10_1).f2))) (fun _ hk => hk.2) (.bool ((rd_T31 l0 x10_1).f3))) (fun _ h_ => h_.1))))) (g := gb147) (o := .cells #[.int .u64 ((rd_T31 l0 x10_1).f0.f0), .int .u32 ((rd_T31 l0 x10_1).f0.f1), .int .u32 ((rd_T31 l0 x10_1).f1.f0), .int .u32 ((rd_T31 l0 x10_1).f1.f1), .string ((rd_T31 l0 x10_1).f2), .bool ((rd_T31 l0 x10_1).f3)] 31 (0, 0)) (by (with_reducible repeat (first | refine blk_drewN ?_ _ | refine blk_drew ?_ | refine blk_alloc ?_ _)); refine blk_put (cs := #[.int .u64 ((rd_T31 l0 x10_1).f0.f0), .int .u32 ((rd_T31 l0 x10_1).f0.f1), .int .u32 ((rd_T31 l0 x10_1).f1.f0), .int .u32 ((rd_T31 l0 x10_1).f1.f1), .string ((rd_T31 l0 x10_1).f2), .bool false]) ?_ 5 _ rfl; (with_reducible repeat (first | refine blk_drewN ?_ _ | refine blk_drew ?_ | refine blk_alloc ?_ _)); refine blk_put (cs := #[.int .u64 ((rd_T31 l0 x10_1).f0.f0), .int .u32 ((rd_T31 l0 x10_1).f0.f1), .int .u32 ((rd_T31 l0 x10_1).f1.f0), .int .u32 ((rd_T31 l0 x10_1).f1.f1), .string (⟨#[]⟩ : ByteArray), .bool false]) ?_ 4 _ rfl; (with_reducible repeat (first | refine blk_drewN ?_ _ | refine blk_drew ?_ | refine blk_alloc ?_ _)); refine blk_put (cs := #[.int .u64 ((rd_T31 l0 x10_1).f0.f0), .int .u32 ((rd_T31 l0 x10_1).f0.f1), .int .u32 ((rd_T31 l0 x10_1).f1.f0), .int .u32 0, .string (⟨#[]⟩ : ByteArray), .bool false]) ?_ 3 _ rfl; (with_reducible repeat (first | refine blk_drewN ?_ _ | refine blk_drew ?_ | refine blk_alloc ?_ _)); refine blk_put (cs := #[.int .u64 ((rd_T31 l0 x10_1).f0.f0), .int .u32 ((rd_T31 l0 x10_1).f0.f1), .int .u32 0, .int .u32 0, .string (⟨#[]⟩ : ByteArray), .bool false]) ?_ 2 _ rfl; (with_reducible repeat (first | refine blk_drewN ?_ _ | refine blk_drew ?_ | refine blk_alloc ?_ _)); refine blk_put (cs := #[.int .u64 ((rd_T31 l0 x10_1).f0.f0), .int .u32 0, .int .u32 0, .int .u32 0, .string (⟨#[]⟩ : ByteArray), .bool false]) ?_ 1 _ rfl; (with_reducible repeat (first | refine blk_drewN ?_ _ | refine blk_drew ?_ | refine blk_alloc ?_ _)); refine blk_put (cs := #[.int .u64 0, .int .u32 0, .int .u32 0, .int .u32 0, .string (⟨#[]⟩ : ByteArray), .bool false]) ?_ 0 _ rfl; (with_reducible repeat (first | refine blk_drewN ?_ _ | refine blk_drew ?_ | refine blk_alloc ?_ _)); exact BK147.out)) (below_size (by repeat (first | (with_reducible first | exact HB.out | apply below_alloc | apply pw_below_drewN | apply below_drew1 | refine below_set ?_ GE147.out) | exact HB.out)))); have n2_ := Aside0.mk (blk_below (g := gb147) (o := .cells #[.int .u64 ((rd_T31 l0 x10_1).f0.f0), .int .u32 ((rd_T31 l0 x10_1).f0.f1), .int .u32 ((rd_T31 l0 x10_1).f1.f0), .int .u32 ((rd_T31 l0 x10_1).f1.f1), .string ((rd_T31 l0 x10_1).f2), .bool ((rd_T31 l0 x10_1).f3)] 31 (0, 0)) (by (with_reducible repeat (first | refine blk_drewN ?_ _ | refine blk_drew ?_ | refine blk_alloc ?_ _)); refine blk_put (cs := #[.int .u64 ((rd_T31 l0 x10_1).f0.f0), .int .u32 ((rd_T31 l0 x10_1).f0.f1), .int .u32 ((rd_T31 l0 x10_1).f1.f0), .int .u32 ((rd_T31 l0 x10_1).f1.f1), .string ((rd_T31 l0 x10_1).f2), .bool false]) ?_ 5 _ rfl; (with_reducible repeat (first | refine blk_drewN ?_ _ | refine blk_drew ?_ | refine blk_alloc ?_ _)); refine blk_put (cs := #[.int .u64 ((rd_T31 l0 x10_1).f0.f0), .int .u32 ((rd_T31 l0 x10_1).f0.f1), .int .u32 ((rd_T31 l0 x10_1).f1.f0), .int .u32 ((rd_T31 l0 x10_1).f1.f1), .string (⟨#[]⟩ : ByteArray), .bool false]) ?_ 4 _ rfl; (with_reducible repeat (first | refine blk_drewN ?_ _ | refine blk_drew ?_ | refine blk_alloc ?_ _)); refine blk_put (cs := #[.int .u64 ((rd_T31 l0 x10_1).f0.f0), .int .u32 ((rd_T31 l0 x10_1).f0.f1), .int .u32 ((rd_T31 l0 x10_1).f1.f0), .int .u32 0, .string (⟨#[]⟩ : ByteArray), .bool false]) ?_ 3 _ rfl; (with_reducible repeat (first | refine blk_drewN ?_ _ | refine blk_drew ?_ | refine blk_alloc ?_ _)); refine blk_put (cs := #[.int .u64 ((rd_T31 l0 x10_1).f0.f0), .int .u32 ((rd_T31 l0 x10_1).f0.f1), .int .u32 0, .int .u32 0, .string (⟨#[]⟩ : ByteArray), .bool false]) ?_ 2 _ rfl; (with_reducible repeat (first | refine blk_drewN ?_ _ | refine blk_drew ?_ | refine blk_alloc ?_ _)); refine blk_put (cs := #[.int .u64 ((rd_T31 l0 x10_1).f0.f0), .int .u32 0, .int .u32 0, .int .u32 0, .string (⟨#[]⟩ : ByteArray), .bool false]) ?_ 1 _ rfl; (with_reducible repeat (first | refine blk_drewN ?_ _ | refine blk_drew ?_ | refine blk_alloc ?_ _)); refine blk_put (cs := #[.int .u64 0, .int .u32 0, .int .u32 0, .int .u32 0, .string (⟨#[]⟩ : ByteArray), .bool false]) ?_ 0 _ rfl; (with_reducible repeat (first | refine blk_drewN ?_ _ | refine blk_drew ?_ | refine blk_alloc ?_ _)); exact BK147.out) hb); have n3_ := Aside0.mk (below_step (by repeat (first | (with_reducible first | exact HB.out | apply below_alloc | apply pw_below_drewN | apply below_drew1 | refine below_set ?_ GE147.out) | exact HB.out)) hb); clear HO_3; clear BK147; clear HB; have HO_3 := n0_; have HO150 := n1_; have BK147 := n2_; have HB := n3_; clear n0_ n1_ n2_ n3_; (try clear hb); (try clear hb2); (try clear hk); (try clear hi); (try clear ho0)))
              go_roundg k1
              case measure => have := HK1.out; omega
              case rel => exact ⟨(x3_1), (wrap64 (x10_1 + 1)), (by first | rfl | (simp; done) | (simp [*]; done)), H', ⟨by have := HK1.out; omega⟩, ⟨by (with_reducible repeat (first | apply Kd.R_alloc | apply Kd.R_drewN | apply Kd.R_drew)); exact Kd.R_mono HO_3.out (fun _ hk => trivial)⟩, ⟨by repeat (first | (with_reducible first | exact HB.out | apply below_alloc | apply pw_below_drewN | apply below_drew1 | refine below_set ?_ GE147.out) | exact HB.out)⟩⟩
          · rw [if_neg c4] at H
            exact absurd H (by simp)
        · rw [if_neg c3] at H
          exact absurd H (by simp)
      · rw [if_neg c2] at H
        have c2b0 : decide (x10_1 < (l0.length : Int)) = false := decide_eq_false c2
        clear c2
        obtain rfl := Option.some.inj H
        go_wp2
        go_ret
        exact ⟨_, by first | rfl | (simp [errW_none, errW_some] <;> rfl) | (simp [*, errW_none, errW_some] <;> rfl), by (with_reducible repeat (first | apply Kd.R_alloc | apply Kd.R_drewN | apply Kd.R_drew)); exact HO_3.out, by repeat (first | (with_reducible first | exact HB.out | apply below_alloc | apply pw_below_drewN | apply below_drew1) | exact HB.out)⟩

/-! ### dovecotelaw07_ChainOrder: function 3 -/
mutual
def dovecotelaw07_ChainOrder.j0 : Nat → List (S31) → Int → Bool → Option (Bool)
  | 0, _, _, _ => none
  | k + 1, x0, x1, x19 => if x19 = true then (some true) else (dovecotelaw07_ChainOrder.l0 k x0 x1 (x0.length : Int) 0)
def dovecotelaw07_ChainOrder.l0 : Nat → List (S31) → Int → Int → Int → Option (Bool)
  | 0, _, _, _, _ => none
  | k + 1, x0, x1, x21, x22 => if x22 < x21 then (dovecotelaw07_ChainOrder.l1 k x0 x1 x22 x21 x22 x22 0) else (if (x0.length : Int) = 0 then (none) else (dovecotelaw07_ChainOrder.l2 k x0 (Int.tmod (wrap64 ((Int.tmod x1 (x0.length : Int)) + (x0.length : Int))) (x0.length : Int)) ([] : List (S31)) (wrap64 ((x0.length : Int) - 1))))
def dovecotelaw07_ChainOrder.l1 : Nat → List (S31) → Int → Int → Int → Int → Int → Int → Option (Bool)
  | 0, _, _, _, _, _, _, _ => none
  | k + 1, x0, x1, x5, x21, x22, x25, x26 => if x26 < x25 then (if 0 ≤ x5 then (if x5 < (x0.length : Int) then (if 0 ≤ x26 then (if x26 < (x0.length : Int) then (if (((rd_T31 x0 x5).f0.f0) == ((rd_T31 x0 x26).f0.f0) && (((rd_T31 x0 x5).f0.f1) == ((rd_T31 x0 x26).f0.f1))) = true then (some true) else (dovecotelaw07_ChainOrder.l1 k x0 x1 x5 x21 x22 x25 (wrap64 (x26 + 1)))) else (none)) else (none)) else (none)) else (none)) else (dovecotelaw07_ChainOrder.l0 k x0 x1 x21 (wrap64 (x22 + 1)))
def dovecotelaw07_ChainOrder.l2 : Nat → List (S31) → Int → List (S31) → Int → Option (Bool)
  | 0, _, _, _, _ => none
  | k + 1, x0, x7, x8, x9 => if x9 ≥ 0 then (if (x0.length : Int) = 0 then (none) else (if 0 ≤ (Int.tmod (wrap64 (x9 + x7)) (x0.length : Int)) then (if (Int.tmod (wrap64 (x9 + x7)) (x0.length : Int)) < (x0.length : Int) then (if x8.length < 2932031007402 then (dovecotelaw07_ChainOrder.l2 k x0 x7 (x8 ++ [(⟨(⟨(rd_T31 x0 (Int.tmod (wrap64 (x9 + x7)) (x0.length : Int))).f0.f0, (rd_T31 x0 (Int.tmod (wrap64 (x9 + x7)) (x0.length : Int))).f0.f1⟩ : S27), (⟨(rd_T31 x0 (Int.tmod (wrap64 (x9 + x7)) (x0.length : Int))).f1.f0, (rd_T31 x0 (Int.tmod (wrap64 (x9 + x7)) (x0.length : Int))).f1.f1⟩ : S29), (rd_T31 x0 (Int.tmod (wrap64 (x9 + x7)) (x0.length : Int))).f2, (rd_T31 x0 (Int.tmod (wrap64 (x9 + x7)) (x0.length : Int))).f3⟩ : S31)]) (wrap64 (x9 - 1))) else (none)) else (none)) else (none))) else ((dovecotelaw07_built.f k x0).bind fun t159 => ((dovecotelaw07_built.f k x8).bind fun t162 => ((dovecoteref07_Same.f k t159 t162).bind fun t165 => (some t165))))
end
def dovecotelaw07_ChainOrder.f (k : Nat) (l0 : List (S31)) (a1 : Int) : Option (Bool) := (dovecotelaw07_awake.f k).bind fun t152 => (if t152 = true then (if (l0.length : Int) = 0 then (dovecotelaw07_ChainOrder.j0 k l0 a1 true) else (dovecotelaw07_ChainOrder.j0 k l0 a1 (decide ((l0.length : Int) > 60)))) else (some false))
theorem dovecotelaw07_ChainOrder.mono_l : ∀ k, (∀ y0 y1 y2, LeO (dovecotelaw07_ChainOrder.j0 k y0 y1 y2) (dovecotelaw07_ChainOrder.j0 (k + 1) y0 y1 y2)) ∧ (∀ y0 y1 y2 y3, LeO (dovecotelaw07_ChainOrder.l0 k y0 y1 y2 y3) (dovecotelaw07_ChainOrder.l0 (k + 1) y0 y1 y2 y3)) ∧ (∀ y0 y1 y2 y3 y4 y5 y6, LeO (dovecotelaw07_ChainOrder.l1 k y0 y1 y2 y3 y4 y5 y6) (dovecotelaw07_ChainOrder.l1 (k + 1) y0 y1 y2 y3 y4 y5 y6)) ∧ (∀ y0 y1 y2 y3, LeO (dovecotelaw07_ChainOrder.l2 k y0 y1 y2 y3) (dovecotelaw07_ChainOrder.l2 (k + 1) y0 y1 y2 y3))
  | 0 => ⟨fun _ _ _ r h => by simp [dovecotelaw07_ChainOrder.j0] at h, fun _ _ _ _ r h => by simp [dovecotelaw07_ChainOrder.l0] at h, fun _ _ _ _ _ _ _ r h => by simp [dovecotelaw07_ChainOrder.l1] at h, fun _ _ _ _ r h => by simp [dovecotelaw07_ChainOrder.l2] at h⟩
  | k + 1 => by
    obtain ⟨ih0, ih1, ih2, ih3⟩ := dovecotelaw07_ChainOrder.mono_l k
    refine ⟨?_, ?_, ?_, ?_⟩
    · intro y0 y1 y2
      unfold dovecotelaw07_ChainOrder.j0
      repeat' first
      | (with_reducible exact ih0 _ _ _)
      | (with_reducible exact ih1 _ _ _ _)
      | (with_reducible exact ih2 _ _ _ _ _ _ _)
      | (with_reducible exact ih3 _ _ _ _)
      | (with_reducible exact dovecotelaw07_awake.mono _)
      | (with_reducible exact dovecotelaw07_built.mono _ _)
      | (with_reducible exact dovecoteref07_Same.mono _ _ _)
      | (with_reducible exact LeO.refl _)
      | (with_reducible exact LeO.none _)
      | (with_reducible refine LeO.ite ?_ ?_)
      | (with_reducible refine LeO.bind ?_ (fun _ => ?_))
      | exact ih0 _ _ _
      | exact ih1 _ _ _ _
      | exact ih2 _ _ _ _ _ _ _
      | exact ih3 _ _ _ _
      | exact dovecotelaw07_awake.mono _
      | exact dovecotelaw07_built.mono _ _
      | exact dovecoteref07_Same.mono _ _ _
      | exact LeO.none _
      | refine LeO.ite ?_ ?_
      | refine LeO.bind ?_ (fun _ => ?_)
    · intro y0 y1 y2 y3
      unfold dovecotelaw07_ChainOrder.l0
      repeat' first
      | (with_reducible exact ih0 _ _ _)
      | (with_reducible exact ih1 _ _ _ _)
      | (with_reducible exact ih2 _ _ _ _ _ _ _)
      | (with_reducible exact ih3 _ _ _ _)
      | (with_reducible exact dovecotelaw07_awake.mono _)
      | (with_reducible exact dovecotelaw07_built.mono _ _)
      | (with_reducible exact dovecoteref07_Same.mono _ _ _)
      | (with_reducible exact LeO.refl _)
      | (with_reducible exact LeO.none _)
      | (with_reducible refine LeO.ite ?_ ?_)
      | (with_reducible refine LeO.bind ?_ (fun _ => ?_))
      | exact ih0 _ _ _
      | exact ih1 _ _ _ _
      | exact ih2 _ _ _ _ _ _ _
      | exact ih3 _ _ _ _
      | exact dovecotelaw07_awake.mono _
      | exact dovecotelaw07_built.mono _ _
      | exact dovecoteref07_Same.mono _ _ _
      | exact LeO.none _
      | refine LeO.ite ?_ ?_
      | refine LeO.bind ?_ (fun _ => ?_)
    · intro y0 y1 y2 y3 y4 y5 y6
      unfold dovecotelaw07_ChainOrder.l1
      repeat' first
      | (with_reducible exact ih0 _ _ _)
      | (with_reducible exact ih1 _ _ _ _)
      | (with_reducible exact ih2 _ _ _ _ _ _ _)
      | (with_reducible exact ih3 _ _ _ _)
      | (with_reducible exact dovecotelaw07_awake.mono _)
      | (with_reducible exact dovecotelaw07_built.mono _ _)
      | (with_reducible exact dovecoteref07_Same.mono _ _ _)
      | (with_reducible exact LeO.refl _)
      | (with_reducible exact LeO.none _)
      | (with_reducible refine LeO.ite ?_ ?_)
      | (with_reducible refine LeO.bind ?_ (fun _ => ?_))
      | exact ih0 _ _ _
      | exact ih1 _ _ _ _
      | exact ih2 _ _ _ _ _ _ _
      | exact ih3 _ _ _ _
      | exact dovecotelaw07_awake.mono _
      | exact dovecotelaw07_built.mono _ _
      | exact dovecoteref07_Same.mono _ _ _
      | exact LeO.none _
      | refine LeO.ite ?_ ?_
      | refine LeO.bind ?_ (fun _ => ?_)
    · intro y0 y1 y2 y3
      unfold dovecotelaw07_ChainOrder.l2
      repeat' first
      | (with_reducible exact ih0 _ _ _)
      | (with_reducible exact ih1 _ _ _ _)
      | (with_reducible exact ih2 _ _ _ _ _ _ _)
      | (with_reducible exact ih3 _ _ _ _)
      | (with_reducible exact dovecotelaw07_awake.mono _)
      | (with_reducible exact dovecotelaw07_built.mono _ _)
      | (with_reducible exact dovecoteref07_Same.mono _ _ _)
      | (with_reducible exact LeO.refl _)
      | (with_reducible exact LeO.none _)
      | (with_reducible refine LeO.ite ?_ ?_)
      | (with_reducible refine LeO.bind ?_ (fun _ => ?_))
      | exact ih0 _ _ _
      | exact ih1 _ _ _ _
      | exact ih2 _ _ _ _ _ _ _
      | exact ih3 _ _ _ _
      | exact dovecotelaw07_awake.mono _
      | exact dovecotelaw07_built.mono _ _
      | exact dovecoteref07_Same.mono _ _ _
      | exact LeO.none _
      | refine LeO.ite ?_ ?_
      | refine LeO.bind ?_ (fun _ => ?_)
theorem dovecotelaw07_ChainOrder.mono : ∀ a0 a1 k, LeO (dovecotelaw07_ChainOrder.f k a0 a1) (dovecotelaw07_ChainOrder.f (k + 1) a0 a1) := by
  intro a0 a1 k
  obtain ⟨ih0, ih1, ih2, ih3⟩ := dovecotelaw07_ChainOrder.mono_l k
  unfold dovecotelaw07_ChainOrder.f
  repeat' first
      | (with_reducible exact ih0 _ _ _)
      | (with_reducible exact ih1 _ _ _ _)
      | (with_reducible exact ih2 _ _ _ _ _ _ _)
      | (with_reducible exact ih3 _ _ _ _)
      | (with_reducible exact dovecotelaw07_awake.mono _)
      | (with_reducible exact dovecotelaw07_built.mono _ _)
      | (with_reducible exact dovecoteref07_Same.mono _ _ _)
      | (with_reducible exact LeO.refl _)
      | (with_reducible exact LeO.none _)
      | (with_reducible refine LeO.ite ?_ ?_)
      | (with_reducible refine LeO.bind ?_ (fun _ => ?_))
      | exact ih0 _ _ _
      | exact ih1 _ _ _ _
      | exact ih2 _ _ _ _ _ _ _
      | exact ih3 _ _ _ _
      | exact dovecotelaw07_awake.mono _
      | exact dovecotelaw07_built.mono _ _
      | exact dovecoteref07_Same.mono _ _ _
      | exact LeO.none _
      | refine LeO.ite ?_ ?_
      | refine LeO.bind ?_ (fun _ => ?_)
set_option maxHeartbeats 8000000 in
set_option maxRecDepth 100000 in
theorem dovecotelaw07_ChainOrder.calls (k : Nat) (A0 : Option Addr) (c0 : Nat) (l0 : List (S31)) (a1 : Int) (r : Bool) (w : World) (hr0 : Kd.C k31 w A0 l0.length l0) (hc0 : l0.length ≤ c0) (h : dovecotelaw07_ChainOrder.f k l0 a1 = some r) :
    Calls Try.prog 3 #[.slice A0 l0.length c0, .int .i64 a1] w fun e w' => e = .returned (.bool r) ∧ Below w.heap.size w w' := by
  have hu27 := Try.underlying27
  have hu31 := Try.underlying31
  have HR0 := Aside0.mk hr0
  have HC0 := Aside0.mk hc0
  clear hr0 hc0
  have HB := Aside0.mk (Below.refl w.heap.size w)
  have H : ((dovecotelaw07_awake.f k).bind fun t152 => (if t152 = true then (if (l0.length : Int) = 0 then (dovecotelaw07_ChainOrder.j0 k l0 a1 true) else (dovecotelaw07_ChainOrder.j0 k l0 a1 (decide ((l0.length : Int) > 60)))) else (some false))) = some r := h
  clear h
  replace H := Option.bind_eq_some_iff.mp H
  obtain ⟨t152, A30, H⟩ := H
  replace H : (if t152 = true then (if (l0.length : Int) = 0 then (dovecotelaw07_ChainOrder.j0 k l0 a1 true) else (dovecotelaw07_ChainOrder.j0 k l0 a1 (decide ((l0.length : Int) > 60)))) else (some false)) = some r := H
  have A3 := Aside0.mk A30
  clear A30
  by_cases c4 : t152 = true
  · subst c4
    have H1 : (if (l0.length : Int) = 0 then (dovecotelaw07_ChainOrder.j0 k l0 a1 true) else (dovecotelaw07_ChainOrder.j0 k l0 a1 (decide ((l0.length : Int) > 60)))) = some r := by rw [if_pos rfl] at H; exact H
    clear H
    have H := H1
    clear H1
    have HC5 := Aside0.mk H
    clear H
    go_enter Try.func3, Try.ntmps3
    go_upto_region 3 with (first | (go_at_call 13; (with_reducible refine (dovecotelaw07_awake.calls k  true _ A3.out).mono ?_); rintro e w6 ⟨rfl, hb⟩; have n0_ := Aside0.mk (below_step (by repeat (first | (with_reducible first | exact HB.out | apply below_alloc | apply pw_below_drewN | apply below_drew1) | exact HB.out)) hb); clear HB; have HB := n0_; clear n0_; (try clear hb); (try clear hb2); (try clear hk); (try clear hi)))
    repeat (go_quiet (first | (go_at_call 13; (with_reducible refine (dovecotelaw07_awake.calls k  true _ A3.out).mono ?_); rintro e w6 ⟨rfl, hb⟩; have n0_ := Aside0.mk (below_step (by repeat (first | (with_reducible first | exact HB.out | apply below_alloc | apply pw_below_drewN | apply below_drew1) | exact HB.out)) hb); clear HB; have HB := n0_; clear n0_; (try clear hb); (try clear hb2); (try clear hk); (try clear hi))); go_upto_region 3 with (first | (go_at_call 13; (with_reducible refine (dovecotelaw07_awake.calls k  true _ A3.out).mono ?_); rintro e w6 ⟨rfl, hb⟩; have n0_ := Aside0.mk (below_step (by repeat (first | (with_reducible first | exact HB.out | apply below_alloc | apply pw_below_drewN | apply below_drew1) | exact HB.out)) hb); clear HB; have HB := n0_; clear n0_; (try clear hb); (try clear hb2); (try clear hk); (try clear hi))))
    (try simp only [Act.put, List.setIfInBounds_toArray, List.set_cons_zero, List.set_cons_succ])
    go_cut [19] (fun v19 wc => ∃ (kq : Nat) (x19_4 : Bool), v19 = .bool x19_4 ∧ Aside0 (dovecotelaw07_ChainOrder.j0 kq l0 a1 x19_4 = some r) ∧ Aside0 (kq ≤ k) ∧ Aside0 (Below w.heap.size w wc))
    case first =>
      have H := HC5.out
      clear HC5
      by_cases c7 : (l0.length : Int) = 0
      · rw [if_pos c7] at H
        have c7b0 : ((l0.length : Int) == 0) = true := beq_iff_eq.mpr c7
        have c7b1 : ((l0.length : Int) != 0) = false := bne_eq_false_iff_eq.mpr c7
        clear c7
        (first | rw [c7b0] | (simp only [i64_w, i32_w]; rw [c7b0]) | skip)
        have H' := Aside0.mk H
        clear H
        go_wp2
        repeat (go_quiet (fail); try go_wp2)
        go_meet
        case rel => exact ⟨_, (true), (by first | rfl | (simp; done) | (simp [*]; done)), H', ⟨by first | omega | exact Nat.le_refl _⟩, ⟨by repeat (first | (with_reducible first | exact HB.out | apply below_alloc | apply pw_below_drewN | apply below_drew1) | exact HB.out)⟩⟩
      · rw [if_neg c7] at H
        have c7b0 : ((l0.length : Int) == 0) = false := beq_eq_false_iff_ne.mpr c7
        have c7b1 : ((l0.length : Int) != 0) = true := bne_iff_ne.mpr c7
        have c7b2 : ¬ (l0 = []) := fun h_ => c7 (by rw [h_]; rfl)
        (first | rw [c7b0] | (simp only [i64_w, i32_w]; rw [c7b0]) | skip)
        have H' := Aside0.mk H
        clear H
        go_wp2
        repeat (go_quiet (fail); try go_wp2)
        go_meet
        case rel => exact ⟨_, (decide ((l0.length : Int) > 60)), (by first | rfl | (simp; done) | (simp [*]; done)), H', ⟨by first | omega | exact Nat.le_refl _⟩, ⟨by repeat (first | (with_reducible first | exact HB.out | apply below_alloc | apply pw_below_drewN | apply below_drew1) | exact HB.out)⟩⟩
    case rest =>
      clear HC5
      try clear p2
      try clear c3
      try clear c4
      try clear c7
      try clear c7b0
      try clear c7b1
      try clear c7b2
      obtain ⟨kq, x19_4, rfl, HA, HJ4, HB⟩ := hcut
      cases kq with
      | zero => exact absurd HA.out (by simp [dovecotelaw07_ChainOrder.j0])
      | succ kj4 =>
        have H := HA.out
        clear HA
        simp only [dovecotelaw07_ChainOrder.j0] at H
        by_cases c8 : x19_4 = true
        · subst c8
          have H1 : (some true) = some r := by rw [if_pos rfl] at H; exact H
          clear H
          have H := H1
          clear H1
          obtain rfl := Option.some.inj H
          go_wp2
          repeat (go_quiet (fail); try go_wp2)
          go_ret
          exact ⟨by first | rfl | (simp [errW_none, errW_some] <;> rfl) | (simp [*, errW_none, errW_some] <;> rfl), by repeat (first | (with_reducible first | exact HB.out | apply below_alloc | apply pw_below_drewN | apply below_drew1) | exact HB.out)⟩
        · replace c8 := Bool.eq_false_iff.mpr c8
          subst c8
          have H1 : (dovecotelaw07_ChainOrder.l0 kj4 l0 a1 (l0.length : Int) 0) = some r := by rw [if_neg (show ¬ (false = true) by decide)] at H; exact H
          clear H
          have H := H1
          clear H1
          have H' := Aside0.mk H
          clear H
          go_wp2
          repeat (go_quiet (fail); try go_wp2)
          go_loopg [22] kj4 (fun kq v22 w' => ∃ (x22_2 : Int), v22 = .int .i64 x22_2 ∧ Aside0 (dovecotelaw07_ChainOrder.l0 kq l0 a1 (l0.length : Int) x22_2 = some r) ∧ Aside0 (kq ≤ kj4) ∧ Aside0 (Below w.heap.size w w'))
          case atStart => exact ⟨(0), (by first | rfl | (simp; done) | (simp [*]; done)), H', ⟨Nat.le_refl _⟩, ⟨by repeat (first | (with_reducible first | exact HB.out | apply below_alloc | apply pw_below_drewN | apply below_drew1) | exact HB.out)⟩⟩
          case round =>
            clear H'
            try clear p2
            try clear c3
            try clear c4
            try clear c7
            try clear c7b0
            try clear c7b1
            try clear c7b2
            try clear c8
            try clear p2
            obtain ⟨x22_2, rfl, HA, HK2, HB⟩ := hrel
            cases gk with
            | zero => exact absurd HA.out (by simp [dovecotelaw07_ChainOrder.l0])
            | succ k2 =>
              have H := HA.out
              clear HA
              simp only [dovecotelaw07_ChainOrder.l0] at H
              by_cases c9 : x22_2 < (l0.length : Int)
              · rw [if_pos c9] at H
                have c9b0 : decide (x22_2 < (l0.length : Int)) = true := decide_eq_true c9
                clear c9
                have H' := Aside0.mk H
                clear H
                go_wp2
                repeat (go_quiet (fail); try go_wp2)
                go_loopg [26] k2 (fun kq v26 w' => ∃ (x26_3 : Int), v26 = .int .i64 x26_3 ∧ Aside0 (dovecotelaw07_ChainOrder.l1 kq l0 a1 x22_2 (l0.length : Int) x22_2 x22_2 x26_3 = some r) ∧ Aside0 (kq ≤ k2) ∧ Aside0 (Below w.heap.size w w'))
                case atStart => exact ⟨(0), (by first | rfl | (simp; done) | (simp [*]; done)), H', ⟨Nat.le_refl _⟩, ⟨by repeat (first | (with_reducible first | exact HB.out | apply below_alloc | apply pw_below_drewN | apply below_drew1) | exact HB.out)⟩⟩
                case round =>
                  clear H'
                  try clear p2
                  try clear c3
                  try clear c4
                  try clear c7
                  try clear c7b0
                  try clear c7b1
                  try clear c7b2
                  try clear c8
                  try clear c9
                  try clear c9b0
                  try clear p2
                  obtain ⟨x26_3, rfl, HA, HK3, HB⟩ := hrel
                  cases gk with
                  | zero => exact absurd HA.out (by simp [dovecotelaw07_ChainOrder.l1])
                  | succ k3 =>
                    have H := HA.out
                    clear HA
                    simp only [dovecotelaw07_ChainOrder.l1] at H
                    by_cases c10 : x26_3 < x22_2
                    · rw [if_pos c10] at H
                      have c10b0 : decide (x26_3 < x22_2) = true := decide_eq_true c10
                      clear c10
                      by_cases c11 : 0 ≤ x22_2
                      · rw [if_pos c11] at H
                        have c11b0 : decide (0 ≤ x22_2) = true := decide_eq_true c11
                        clear c11
                        by_cases c12 : x22_2 < (l0.length : Int)
                        · rw [if_pos c12] at H
                          have c12b0 : decide (x22_2 < (l0.length : Int)) = true := decide_eq_true c12
                          clear c12
                          by_cases c13 : 0 ≤ x26_3
                          · rw [if_pos c13] at H
                            have c13b0 : decide (0 ≤ x26_3) = true := decide_eq_true c13
                            clear c13
                            by_cases c14 : x26_3 < (l0.length : Int)
                            · rw [if_pos c14] at H
                              have c14b0 : decide (x26_3 < (l0.length : Int)) = true := decide_eq_true c14
                              clear c14
                              by_cases c15 : (((rd_T31 l0 x22_2).f0.f0) == ((rd_T31 l0 x26_3).f0.f0) && (((rd_T31 l0 x22_2).f0.f1) == ((rd_T31 l0 x26_3).f0.f1))) = true
                              · rw [if_pos c15] at H
                                have c15b0 : (((rd_T31 l0 x22_2).f0.f0) == ((rd_T31 l0 x26_3).f0.f0) && (((rd_T31 l0 x22_2).f0.f1) == ((rd_T31 l0 x26_3).f0.f1))) = true := c15
                                (try (have c15b1 : decide (((rd_T31 l0 x22_2).f0.f0) = ((rd_T31 l0 x26_3).f0.f0) && (((rd_T31 l0 x22_2).f0.f1) == ((rd_T31 l0 x26_3).f0.f1))) = true := by simpa using c15))
                                (try (have c15b2 : (((rd_T31 l0 x22_2).f0.f0) == ((rd_T31 l0 x26_3).f0.f0) && (((rd_T31 l0 x22_2).f0.f1) == ((rd_T31 l0 x26_3).f0.f1))) = true := by simpa using c15))
                                clear c15
                                obtain rfl := Option.some.inj H
                                have p153 : 0 ≤ (x22_2 : Int) := of_decide_eq_true (by first | (with_reducible assumption) | assumption)
                                have q153 : x22_2 < (l0.length : Int) := of_decide_eq_true (by first | (with_reducible assumption) | assumption)
                                obtain ⟨ad153, e153, hx153_0, hx153_1, hx153_2, hx153_3, hx153_4, hx153_5⟩ := at_T31 HR0.out x22_2 p153 q153
                                cases e153
                                replace hx153_0 := (HB.out.cell (World.block_lt_of_cell? w _ hx153_0)).trans hx153_0
                                replace hx153_1 := (HB.out.cell (World.block_lt_of_cell? w _ hx153_1)).trans hx153_1
                                replace hx153_2 := (HB.out.cell (World.block_lt_of_cell? w _ hx153_2)).trans hx153_2
                                replace hx153_3 := (HB.out.cell (World.block_lt_of_cell? w _ hx153_3)).trans hx153_3
                                replace hx153_4 := (HB.out.cell (World.block_lt_of_cell? w _ hx153_4)).trans hx153_4
                                replace hx153_5 := (HB.out.cell (World.block_lt_of_cell? w _ hx153_5)).trans hx153_5
                                replace p153 := eq_true p153
                                replace q153 := eq_true q153
                                have p154 : 0 ≤ (x26_3 : Int) := of_decide_eq_true (by first | (with_reducible assumption) | assumption)
                                have q154 : x26_3 < (l0.length : Int) := of_decide_eq_true (by first | (with_reducible assumption) | assumption)
                                obtain ⟨ad154, e154, hx154_0, hx154_1, hx154_2, hx154_3, hx154_4, hx154_5⟩ := at_T31 HR0.out x26_3 p154 q154
                                obtain rfl : ad153 = ad154 := (by injection e154)
                                replace hx154_0 := (HB.out.cell (World.block_lt_of_cell? w _ hx154_0)).trans hx154_0
                                replace hx154_1 := (HB.out.cell (World.block_lt_of_cell? w _ hx154_1)).trans hx154_1
                                replace hx154_2 := (HB.out.cell (World.block_lt_of_cell? w _ hx154_2)).trans hx154_2
                                replace hx154_3 := (HB.out.cell (World.block_lt_of_cell? w _ hx154_3)).trans hx154_3
                                replace hx154_4 := (HB.out.cell (World.block_lt_of_cell? w _ hx154_4)).trans hx154_4
                                replace hx154_5 := (HB.out.cell (World.block_lt_of_cell? w _ hx154_5)).trans hx154_5
                                replace p154 := eq_true p154
                                replace q154 := eq_true q154
                                go_wp2
                                repeat (go_quiet (fail); try go_wp2)
                                go_ret
                                exact ⟨by first | rfl | (simp [errW_none, errW_some] <;> rfl) | (simp [*, errW_none, errW_some] <;> rfl), by repeat (first | (with_reducible first | exact HB.out | apply below_alloc | apply pw_below_drewN | apply below_drew1) | exact HB.out)⟩
                              · rw [if_neg c15] at H
                                have c15b0 : (((rd_T31 l0 x22_2).f0.f0) == ((rd_T31 l0 x26_3).f0.f0) && (((rd_T31 l0 x22_2).f0.f1) == ((rd_T31 l0 x26_3).f0.f1))) = false := by simpa using c15
                                (try (have c15b1 : decide (((rd_T31 l0 x22_2).f0.f0) = ((rd_T31 l0 x26_3).f0.f0) && (((rd_T31 l0 x22_2).f0.f1) == ((rd_T31 l0 x26_3).f0.f1))) = false := by simpa using c15))
                                (try (have c15b2 : (((rd_T31 l0 x22_2).f0.f0) == ((rd_T31 l0 x26_3).f0.f0) && (((rd_T31 l0 x22_2).f0.f1) == ((rd_T31 l0 x26_3).f0.f1))) = false := by simpa using c15))
                                (try (have c15b3 : ¬ (((rd_T31 l0 x22_2).f0.f0) = ((rd_T31 l0 x26_3).f0.f0) && (((rd_T31 l0 x22_2).f0.f1) == ((rd_T31 l0 x26_3).f0.f1))) := by simpa using c15))
                                clear c15
                                have H' := Aside0.mk H
                                clear H
                                have p153 : 0 ≤ (x22_2 : Int) := of_decide_eq_true (by first | (with_reducible assumption) | assumption)
                                have q153 : x22_2 < (l0.length : Int) := of_decide_eq_true (by first | (with_reducible assumption) | assumption)
                                obtain ⟨ad153, e153, hx153_0, hx153_1, hx153_2, hx153_3, hx153_4, hx153_5⟩ := at_T31 HR0.out x22_2 p153 q153
                                cases e153
                                replace hx153_0 := (HB.out.cell (World.block_lt_of_cell? w _ hx153_0)).trans hx153_0
                                replace hx153_1 := (HB.out.cell (World.block_lt_of_cell? w _ hx153_1)).trans hx153_1
                                replace hx153_2 := (HB.out.cell (World.block_lt_of_cell? w _ hx153_2)).trans hx153_2
                                replace hx153_3 := (HB.out.cell (World.block_lt_of_cell? w _ hx153_3)).trans hx153_3
                                replace hx153_4 := (HB.out.cell (World.block_lt_of_cell? w _ hx153_4)).trans hx153_4
                                replace hx153_5 := (HB.out.cell (World.block_lt_of_cell? w _ hx153_5)).trans hx153_5
                                replace p153 := eq_true p153
                                replace q153 := eq_true q153
                                have p154 : 0 ≤ (x26_3 : Int) := of_decide_eq_true (by first | (with_reducible assumption) | assumption)
                                have q154 : x26_3 < (l0.length : Int) := of_decide_eq_true (by first | (with_reducible assumption) | assumption)
                                obtain ⟨ad154, e154, hx154_0, hx154_1, hx154_2, hx154_3, hx154_4, hx154_5⟩ := at_T31 HR0.out x26_3 p154 q154
                                obtain rfl : ad153 = ad154 := (by injection e154)
                                replace hx154_0 := (HB.out.cell (World.block_lt_of_cell? w _ hx154_0)).trans hx154_0
                                replace hx154_1 := (HB.out.cell (World.block_lt_of_cell? w _ hx154_1)).trans hx154_1
                                replace hx154_2 := (HB.out.cell (World.block_lt_of_cell? w _ hx154_2)).trans hx154_2
                                replace hx154_3 := (HB.out.cell (World.block_lt_of_cell? w _ hx154_3)).trans hx154_3
                                replace hx154_4 := (HB.out.cell (World.block_lt_of_cell? w _ hx154_4)).trans hx154_4
                                replace hx154_5 := (HB.out.cell (World.block_lt_of_cell? w _ hx154_5)).trans hx154_5
                                replace p154 := eq_true p154
                                replace q154 := eq_true q154
                                go_wp2
                                repeat (go_quiet (fail); try go_wp2)
                                go_roundg k3
                                case measure => have := HJ4.out; have := HK2.out; have := HK3.out; omega
                                case rel => exact ⟨(wrap64 (x26_3 + 1)), (by first | rfl | (simp; done) | (simp [*]; done)), H', ⟨by have := HJ4.out; have := HK2.out; have := HK3.out; omega⟩, ⟨by repeat (first | (with_reducible first | exact HB.out | apply below_alloc | apply pw_below_drewN | apply below_drew1) | exact HB.out)⟩⟩
                            · rw [if_neg c14] at H
                              exact absurd H (by simp)
                          · rw [if_neg c13] at H
                            exact absurd H (by simp)
                        · rw [if_neg c12] at H
                          exact absurd H (by simp)
                      · rw [if_neg c11] at H
                        exact absurd H (by simp)
                    · rw [if_neg c10] at H
                      have c10b0 : decide (x26_3 < x22_2) = false := decide_eq_false c10
                      clear c10
                      have H' := Aside0.mk H
                      clear H
                      go_wp2
                      repeat (go_quiet (fail); try go_wp2)
                      go_roundg k3
                      case measure => have := HJ4.out; have := HK2.out; have := HK3.out; omega
                      case rel => exact ⟨(wrap64 (x22_2 + 1)), (by first | rfl | (simp; done) | (simp [*]; done)), H', ⟨by have := HJ4.out; have := HK2.out; have := HK3.out; omega⟩, ⟨by repeat (first | (with_reducible first | exact HB.out | apply below_alloc | apply pw_below_drewN | apply below_drew1) | exact HB.out)⟩⟩
              · rw [if_neg c9] at H
                have c9b0 : decide (x22_2 < (l0.length : Int)) = false := decide_eq_false c9
                clear c9
                by_cases c16 : (l0.length : Int) = 0
                · rw [if_pos c16] at H
                  exact absurd H (by simp)
                · rw [if_neg c16] at H
                  have c16b0 : ((l0.length : Int) == 0) = false := beq_eq_false_iff_ne.mpr c16
                  have c16b1 : ((l0.length : Int) != 0) = true := bne_iff_ne.mpr c16
                  have c16b2 : ¬ (l0 = []) := fun h_ => c16 (by rw [h_]; rfl)
                  have H' := Aside0.mk H
                  clear H
                  go_wp2
                  repeat (go_quiet (fail); try go_wp2)
                  go_loopg [8, 9] k2 (fun kq v8 v9 w' => ∃ (x8_3 : List (S31)) (x9_3 : Int), v9 = .int .i64 x9_3 ∧ Aside0 (dovecotelaw07_ChainOrder.l2 kq l0 (Int.tmod (wrap64 ((Int.tmod a1 (l0.length : Int)) + (l0.length : Int))) (l0.length : Int)) x8_3 x9_3 = some r) ∧ Aside0 (kq ≤ k2) ∧ Aside0 (Kd.R k31 31 w' w.heap.size (fun _ => True) v8 x8_3) ∧ Aside0 (Below w.heap.size w w'))
                  case atStart => exact ⟨(([] : List (S31))), (wrap64 ((l0.length : Int) - 1)), (by first | rfl | (simp; done) | (simp [*]; done)), H', ⟨Nat.le_refl _⟩, ⟨by first | exact Kd.R_nil _ _ _ _ _ | exact Kd.N_nil _ _ _ _ _ | exact Kd.V_nil _ _ _ _ _ | exact Kd.Q_nil _ _ _ _ _ | exact Kd.S_nil _ _ _ _ _⟩, ⟨by repeat (first | (with_reducible first | exact HB.out | apply below_alloc | apply pw_below_drewN | apply below_drew1) | exact HB.out)⟩⟩
                  case round =>
                    clear H'
                    try clear c1
                    try clear p1
                    try clear q1
                    try clear hx1
                    try clear p2
                    try clear c3
                    try clear c4
                    try clear p6
                    try clear c7
                    try clear c7b0
                    try clear c7b1
                    try clear c7b2
                    try clear c8
                    try clear c9
                    try clear c9b0
                    try clear c10
                    try clear c10b0
                    try clear c11
                    try clear c11b0
                    try clear c12
                    try clear c12b0
                    try clear c13
                    try clear c13b0
                    try clear c14
                    try clear c14b0
                    try clear c15
                    try clear c15b0
                    try clear c15b1
                    try clear c15b2
                    try clear p15
                    try clear q15
                    try clear hx15
                    try clear c16
                    try clear c16b0
                    try clear c16b1
                    try clear c16b2
                    try clear hx153_0
                    try clear hx153_1
                    try clear hx153_2
                    try clear hx153_3
                    try clear hx153_4
                    try clear hx153_5
                    try clear hx154_0
                    try clear hx154_1
                    try clear hx154_2
                    try clear hx154_3
                    try clear hx154_4
                    try clear hx154_5
                    try clear p153
                    try clear p154
                    try clear p2
                    try clear q153
                    try clear q154
                    obtain ⟨x8_3, x9_3, rfl, HA, HK3, HO_8, HB⟩ := hrel
                    cases gk with
                    | zero => exact absurd HA.out (by simp [dovecotelaw07_ChainOrder.l2])
                    | succ k3 =>
                      have H := HA.out
                      clear HA
                      simp only [dovecotelaw07_ChainOrder.l2] at H
                      by_cases c17 : x9_3 ≥ 0
                      · rw [if_pos c17] at H
                        have c17b0 : decide (0 ≤ x9_3) = true := decide_eq_true c17
                        clear c17
                        by_cases c18 : (l0.length : Int) = 0
                        · rw [if_pos c18] at H
                          exact absurd H (by simp)
                        · rw [if_neg c18] at H
                          have c18b0 : ((l0.length : Int) == 0) = false := beq_eq_false_iff_ne.mpr c18
                          have c18b1 : ((l0.length : Int) != 0) = true := bne_iff_ne.mpr c18
                          have c18b2 : ¬ (l0 = []) := fun h_ => c18 (by rw [h_]; rfl)
                          obtain ⟨ji19, hji19⟩ : ∃ j_ : Int, (Int.tmod (wrap64 (x9_3 + (Int.tmod (wrap64 ((Int.tmod a1 (l0.length : Int)) + (l0.length : Int))) (l0.length : Int)))) (l0.length : Int)) = j_ := ⟨_, rfl⟩
                          replace H : (if 0 ≤ (ji19) then (if (ji19) < (l0.length : Int) then (if x8_3.length < 2932031007402 then (dovecotelaw07_ChainOrder.l2 k3 l0 (Int.tmod (wrap64 ((Int.tmod a1 (l0.length : Int)) + (l0.length : Int))) (l0.length : Int)) (x8_3 ++ [(⟨(⟨(rd_T31 l0 (ji19)).f0.f0, (rd_T31 l0 (ji19)).f0.f1⟩ : S27), (⟨(rd_T31 l0 (ji19)).f1.f0, (rd_T31 l0 (ji19)).f1.f1⟩ : S29), (rd_T31 l0 (ji19)).f2, (rd_T31 l0 (ji19)).f3⟩ : S31)]) (wrap64 (x9_3 - 1))) else (none)) else (none)) else (none)) = some r := by first | (rw [hji19] at H; exact H) | (simp only [hji19] at H ⊢; exact H)
                          by_cases c20 : 0 ≤ (ji19)
                          · rw [if_pos c20] at H
                            have c20b0 : decide (0 ≤ (ji19)) = true := decide_eq_true c20
                            clear c20
                            by_cases c21 : (ji19) < (l0.length : Int)
                            · rw [if_pos c21] at H
                              have c21b0 : decide ((ji19) < (l0.length : Int)) = true := decide_eq_true c21
                              clear c21
                              by_cases c22 : x8_3.length < 2932031007402
                              · rw [if_pos c22] at H
                                have LMc22 := Aside0.mk c22
                                clear c22
                                obtain ⟨y156, hy156⟩ : ∃ y_ : List (S31), y_ = (x8_3 ++ [(⟨(⟨(rd_T31 l0 (ji19)).f0.f0, (rd_T31 l0 (ji19)).f0.f1⟩ : S27), (⟨(rd_T31 l0 (ji19)).f1.f0, (rd_T31 l0 (ji19)).f1.f1⟩ : S29), (rd_T31 l0 (ji19)).f2, (rd_T31 l0 (ji19)).f3⟩ : S31)]) := ⟨_, rfl⟩
                                replace H : (dovecotelaw07_ChainOrder.l2 k3 l0 (Int.tmod (wrap64 ((Int.tmod a1 (l0.length : Int)) + (l0.length : Int))) (l0.length : Int)) y156 (wrap64 (x9_3 - 1))) = some r := by first | (rw [hy156]; with_reducible exact H) | (have H2_ := (Option.bind_some _ _).symm.trans H; rw [hy156]; with_reducible exact H2_) | (have H2_ := (Option.bind_some _ _).symm.trans H; with_reducible exact H2_) | with_reducible exact H | (rw [hy156]; exact H) | exact H
                                have Ny156 := Aside0.mk hy156
                                clear hy156
                                have H' := Aside0.mk H
                                clear H
                                have p155 : 0 ≤ ((ji19) : Int) := of_decide_eq_true (by first | (with_reducible assumption) | assumption)
                                have q155 : (ji19) < (l0.length : Int) := of_decide_eq_true (by first | (with_reducible assumption) | assumption)
                                obtain ⟨ad155, e155, hx155_0, hx155_1, hx155_2, hx155_3, hx155_4, hx155_5⟩ := at_T31 HR0.out (ji19) p155 q155
                                cases e155
                                replace hx155_0 := (HB.out.cell (World.block_lt_of_cell? w _ hx155_0)).trans hx155_0
                                replace hx155_1 := (HB.out.cell (World.block_lt_of_cell? w _ hx155_1)).trans hx155_1
                                replace hx155_2 := (HB.out.cell (World.block_lt_of_cell? w _ hx155_2)).trans hx155_2
                                replace hx155_3 := (HB.out.cell (World.block_lt_of_cell? w _ hx155_3)).trans hx155_3
                                replace hx155_4 := (HB.out.cell (World.block_lt_of_cell? w _ hx155_4)).trans hx155_4
                                replace hx155_5 := (HB.out.cell (World.block_lt_of_cell? w _ hx155_5)).trans hx155_5
                                replace p155 := eq_true p155
                                replace q155 := eq_true q155
                                go_wp2_with (first | ((with_reducible refine gate_builtin (b := .append) (xs := #[.tmp 59, .tmp 69]) rfl ?_); (try (refine gate_guard (by rfl) ?_; dsimp only)); at_builtin; refine Kd.R_append k31 (w0 := w) w.heap.size rfl (.tmp 59) (.tmp 69) 22 31 (.agg #[(.int .u64 0), (.int .u32 0), (.int .u32 0), (.int .u32 0), (.string ⟨#[]⟩), (.bool false)]) 48 rfl Try.underlying22 info31 rfl (by decide) (by omega) u8 x8_3 (⟨(⟨(rd_T31 l0 (ji19)).f0.f0, (rd_T31 l0 (ji19)).f0.f1⟩ : S27), (⟨(rd_T31 l0 (ji19)).f1.f0, (rd_T31 l0 (ji19)).f1.f1⟩ : S29), (rd_T31 l0 (ji19)).f2, (rd_T31 l0 (ji19)).f3⟩ : S31) [.int .u64 ((rd_T31 l0 (ji19)).f0.f0), .int .u32 ((rd_T31 l0 (ji19)).f0.f1), .int .u32 ((rd_T31 l0 (ji19)).f1.f0), .int .u32 ((rd_T31 l0 (ji19)).f1.f1), .string ((rd_T31 l0 (ji19)).f2), .bool ((rd_T31 l0 (ji19)).f3)] (fun _ => True) (fun _ => False) rfl rfl ?aP (fun _ hk => hk.elim) ?aF ?aO ?aB ?aS ?aL ?_; (case aP => exact k31_mkM _ _ _ (⟨(⟨(rd_T31 l0 (ji19)).f0.f0, (rd_T31 l0 (ji19)).f0.f1⟩ : S27), (⟨(rd_T31 l0 (ji19)).f1.f0, (rd_T31 l0 (ji19)).f1.f1⟩ : S29), (rd_T31 l0 (ji19)).f2, (rd_T31 l0 (ji19)).f3⟩ : S31)); (case aB => exact (by repeat (first | (with_reducible first | exact HB.out | apply below_alloc | apply pw_below_drewN | apply below_drew1) | exact HB.out))); (case aF => exact (fun _ _ => trivial)); (case aO => exact (by (with_reducible repeat (first | apply Kd.R_alloc | apply Kd.R_drewN | apply Kd.R_drew)); exact HO_8.out)); (case aS => exact (below_size (by repeat (first | (with_reducible first | exact HB.out | apply below_alloc | apply pw_below_drewN | apply below_drew1) | exact HB.out)))); (case aL => have := LMc22.out; omega); intro v157 w23 ho hb hg hat; rw [← Ny156.out] at ho; have n0_ := Aside0.mk (hb); have n1_ := Aside0.mk (ho); clear HB; clear HO_8; have HB := n0_; have HO158 := n1_; clear n0_ n1_; clear ho hb hg hat))
                                repeat (go_quiet (first | ((with_reducible refine gate_builtin (b := .append) (xs := #[.tmp 59, .tmp 69]) rfl ?_); (try (refine gate_guard (by rfl) ?_; dsimp only)); at_builtin; refine Kd.R_append k31 (w0 := w) w.heap.size rfl (.tmp 59) (.tmp 69) 22 31 (.agg #[(.int .u64 0), (.int .u32 0), (.int .u32 0), (.int .u32 0), (.string ⟨#[]⟩), (.bool false)]) 48 rfl Try.underlying22 info31 rfl (by decide) (by omega) u8 x8_3 (⟨(⟨(rd_T31 l0 (ji19)).f0.f0, (rd_T31 l0 (ji19)).f0.f1⟩ : S27), (⟨(rd_T31 l0 (ji19)).f1.f0, (rd_T31 l0 (ji19)).f1.f1⟩ : S29), (rd_T31 l0 (ji19)).f2, (rd_T31 l0 (ji19)).f3⟩ : S31) [.int .u64 ((rd_T31 l0 (ji19)).f0.f0), .int .u32 ((rd_T31 l0 (ji19)).f0.f1), .int .u32 ((rd_T31 l0 (ji19)).f1.f0), .int .u32 ((rd_T31 l0 (ji19)).f1.f1), .string ((rd_T31 l0 (ji19)).f2), .bool ((rd_T31 l0 (ji19)).f3)] (fun _ => True) (fun _ => False) rfl rfl ?aP (fun _ hk => hk.elim) ?aF ?aO ?aB ?aS ?aL ?_; (case aP => exact k31_mkM _ _ _ (⟨(⟨(rd_T31 l0 (ji19)).f0.f0, (rd_T31 l0 (ji19)).f0.f1⟩ : S27), (⟨(rd_T31 l0 (ji19)).f1.f0, (rd_T31 l0 (ji19)).f1.f1⟩ : S29), (rd_T31 l0 (ji19)).f2, (rd_T31 l0 (ji19)).f3⟩ : S31)); (case aB => exact (by repeat (first | (with_reducible first | exact HB.out | apply below_alloc | apply pw_below_drewN | apply below_drew1) | exact HB.out))); (case aF => exact (fun _ _ => trivial)); (case aO => exact (by (with_reducible repeat (first | apply Kd.R_alloc | apply Kd.R_drewN | apply Kd.R_drew)); exact HO_8.out)); (case aS => exact (below_size (by repeat (first | (with_reducible first | exact HB.out | apply below_alloc | apply pw_below_drewN | apply below_drew1) | exact HB.out)))); (case aL => have := LMc22.out; omega); intro v157 w23 ho hb hg hat; rw [← Ny156.out] at ho; have n0_ := Aside0.mk (hb); have n1_ := Aside0.mk (ho); clear HB; clear HO_8; have HB := n0_; have HO158 := n1_; clear n0_ n1_; clear ho hb hg hat)); try go_wp2_with (first | ((with_reducible refine gate_builtin (b := .append) (xs := #[.tmp 59, .tmp 69]) rfl ?_); (try (refine gate_guard (by rfl) ?_; dsimp only)); at_builtin; refine Kd.R_append k31 (w0 := w) w.heap.size rfl (.tmp 59) (.tmp 69) 22 31 (.agg #[(.int .u64 0), (.int .u32 0), (.int .u32 0), (.int .u32 0), (.string ⟨#[]⟩), (.bool false)]) 48 rfl Try.underlying22 info31 rfl (by decide) (by omega) u8 x8_3 (⟨(⟨(rd_T31 l0 (ji19)).f0.f0, (rd_T31 l0 (ji19)).f0.f1⟩ : S27), (⟨(rd_T31 l0 (ji19)).f1.f0, (rd_T31 l0 (ji19)).f1.f1⟩ : S29), (rd_T31 l0 (ji19)).f2, (rd_T31 l0 (ji19)).f3⟩ : S31) [.int .u64 ((rd_T31 l0 (ji19)).f0.f0), .int .u32 ((rd_T31 l0 (ji19)).f0.f1), .int .u32 ((rd_T31 l0 (ji19)).f1.f0), .int .u32 ((rd_T31 l0 (ji19)).f1.f1), .string ((rd_T31 l0 (ji19)).f2), .bool ((rd_T31 l0 (ji19)).f3)] (fun _ => True) (fun _ => False) rfl rfl ?aP (fun _ hk => hk.elim) ?aF ?aO ?aB ?aS ?aL ?_; (case aP => exact k31_mkM _ _ _ (⟨(⟨(rd_T31 l0 (ji19)).f0.f0, (rd_T31 l0 (ji19)).f0.f1⟩ : S27), (⟨(rd_T31 l0 (ji19)).f1.f0, (rd_T31 l0 (ji19)).f1.f1⟩ : S29), (rd_T31 l0 (ji19)).f2, (rd_T31 l0 (ji19)).f3⟩ : S31)); (case aB => exact (by repeat (first | (with_reducible first | exact HB.out | apply below_alloc | apply pw_below_drewN | apply below_drew1) | exact HB.out))); (case aF => exact (fun _ _ => trivial)); (case aO => exact (by (with_reducible repeat (first | apply Kd.R_alloc | apply Kd.R_drewN | apply Kd.R_drew)); exact HO_8.out)); (case aS => exact (below_size (by repeat (first | (with_reducible first | exact HB.out | apply below_alloc | apply pw_below_drewN | apply below_drew1) | exact HB.out)))); (case aL => have := LMc22.out; omega); intro v157 w23 ho hb hg hat; rw [← Ny156.out] at ho; have n0_ := Aside0.mk (hb); have n1_ := Aside0.mk (ho); clear HB; clear HO_8; have HB := n0_; have HO158 := n1_; clear n0_ n1_; clear ho hb hg hat)))
                                go_roundg k3
                                case measure => have := HJ4.out; have := HK2.out; have := HK3.out; omega
                                case rel => exact ⟨(y156), (wrap64 (x9_3 - 1)), (by first | rfl | (simp; done) | (simp [*]; done)), H', ⟨by have := HJ4.out; have := HK2.out; have := HK3.out; omega⟩, ⟨by (with_reducible repeat (first | apply Kd.R_alloc | apply Kd.R_drewN | apply Kd.R_drew)); exact HO158.out⟩, ⟨by repeat (first | (with_reducible first | exact HB.out | apply below_alloc | apply pw_below_drewN | apply below_drew1) | exact HB.out)⟩⟩
                              · rw [if_neg c22] at H
                                exact absurd H (by simp)
                            · rw [if_neg c21] at H
                              exact absurd H (by simp)
                          · rw [if_neg c20] at H
                            exact absurd H (by simp)
                      · rw [if_neg c17] at H
                        have c17b0 : decide (0 ≤ x9_3) = false := decide_eq_false c17
                        clear c17
                        replace H := Option.bind_eq_some_iff.mp H
                        obtain ⟨t159, A240, H⟩ := H
                        replace H : ((dovecotelaw07_built.f k3 x8_3).bind fun t162 => ((dovecoteref07_Same.f k3 t159 t162).bind fun t165 => (some t165))) = some r := H
                        have A24 := Aside0.mk A240
                        clear A240
                        replace H := Option.bind_eq_some_iff.mp H
                        obtain ⟨t162, A250, H⟩ := H
                        replace H : ((dovecoteref07_Same.f k3 t159 t162).bind fun t165 => (some t165)) = some r := H
                        have A25 := Aside0.mk A250
                        clear A250
                        replace H := Option.bind_eq_some_iff.mp H
                        obtain ⟨t165, A260, H⟩ := H
                        replace H : (some t165) = some r := H
                        have A26 := Aside0.mk A260
                        clear A260
                        obtain rfl := Option.some.inj H
                        go_wp2_with (first | (go_at_call 15; (with_reducible refine (dovecotelaw07_built.calls k3 _ _ l0 t159 _ ?side1 ?side2 A24.out).mono ?_); (case side1 => repeat (first | exact (Kd.C_below HR0.out HB.out) | (with_reducible refine Kd.C_alloc ?_ _) | (with_reducible refine Kd.C_drewN ?_ _) | (with_reducible refine Kd.C_drew ?_))); (case side2 => exact HC0.out); rintro e w27 ⟨v160, rfl, ho0, hb⟩; have n0_ := Aside0.mk (Kd.R_elder' (by (with_reducible repeat (first | apply Kd.R_alloc | apply Kd.R_drewN | apply Kd.R_drew)); exact HO_8.out) (Kd.R_base ho0) hb); have n1_ := Aside0.mk (Kd.R_lower (Kd.R_new' ho0 (Kd.R_lt (by (with_reducible repeat (first | apply Kd.R_alloc | apply Kd.R_drewN | apply Kd.R_drew)); exact HO_8.out))) (below_size (by repeat (first | (with_reducible first | exact HB.out | apply below_alloc | apply pw_below_drewN | apply below_drew1) | exact HB.out)))); have n2_ := Aside0.mk (below_step (by repeat (first | (with_reducible first | exact HB.out | apply below_alloc | apply pw_below_drewN | apply below_drew1) | exact HB.out)) hb); clear HO_8; clear HB; have HO_8 := n0_; have HO161 := n1_; have HB := n2_; clear n0_ n1_ n2_; (try clear hb); (try clear hb2); (try clear hk); (try clear hi); (try clear ho0); obtain ⟨Ao28, co28, eo28⟩ := Kd.R_slice HO_8.out; subst eo28) | (go_at_call 15; (with_reducible refine (dovecotelaw07_built.calls k3 _ _ x8_3 t162 _ ?side1 ?side2 A25.out).mono ?_); (case side1 => repeat (first | exact (Kd.R_reads' HO_8.out).2.2 | (with_reducible refine Kd.C_alloc ?_ _) | (with_reducible refine Kd.C_drewN ?_ _) | (with_reducible refine Kd.C_drew ?_))); (case side2 => exact (Kd.R_reads' HO_8.out).2.1); rintro e w29 ⟨v163, rfl, ho0, hb⟩; have n0_ := Aside0.mk (Kd.R_elder' (by (with_reducible repeat (first | apply Kd.R_alloc | apply Kd.R_drewN | apply Kd.R_drew)); exact HO_8.out) (Kd.R_base ho0) hb); have n1_ := Aside0.mk (Kd.R_elder' (by (with_reducible repeat (first | apply Kd.R_alloc | apply Kd.R_drewN | apply Kd.R_drew)); exact HO161.out) (Kd.R_base ho0) hb); have n2_ := Aside0.mk (Kd.R_lower (Kd.R_new' (Kd.R_new' ho0 (Kd.R_lt (by (with_reducible repeat (first | apply Kd.R_alloc | apply Kd.R_drewN | apply Kd.R_drew)); exact HO_8.out))) (Kd.R_lt (by (with_reducible repeat (first | apply Kd.R_alloc | apply Kd.R_drewN | apply Kd.R_drew)); exact HO161.out))) (below_size (by repeat (first | (with_reducible first | exact HB.out | apply below_alloc | apply pw_below_drewN | apply below_drew1) | exact HB.out)))); have n3_ := Aside0.mk (below_step (by repeat (first | (with_reducible first | exact HB.out | apply below_alloc | apply pw_below_drewN | apply below_drew1) | exact HB.out)) hb); clear HO_8; clear HO161; clear HB; have HO_8 := n0_; have HO161 := n1_; have HO164 := n2_; have HB := n3_; clear n0_ n1_ n2_ n3_; (try clear hb); (try clear hb2); (try clear hk); (try clear hi); (try clear ho0); obtain ⟨Ao30, co30, eo30⟩ := Kd.R_slice HO161.out; subst eo30; obtain ⟨Ao31, co31, eo31⟩ := Kd.R_slice HO164.out; subst eo31) | (go_at_call 14; (with_reducible refine (dovecoteref07_Same.calls k3 _ _ t159 _ _ t162 t165 _ ?side1 ?side2 ?side3 ?side4 A26.out).mono ?_); (case side1 => repeat (first | exact (Kd.R_reads' HO161.out).2.2 | (with_reducible refine Kd.C_alloc ?_ _) | (with_reducible refine Kd.C_drewN ?_ _) | (with_reducible refine Kd.C_drew ?_))); (case side2 => exact (Kd.R_reads' HO161.out).2.1); (case side3 => repeat (first | exact (Kd.R_reads' HO164.out).2.2 | (with_reducible refine Kd.C_alloc ?_ _) | (with_reducible refine Kd.C_drewN ?_ _) | (with_reducible refine Kd.C_drew ?_))); (case side4 => exact (Kd.R_reads' HO164.out).2.1); rintro e w' ⟨rfl, ⟨nd, rfl⟩⟩; (try first | exact ⟨rfl, _, World.drewN_drewN _ _ _⟩ | exact ⟨rfl, _, Eq.trans (World.drewN_drewN _ _ _) (congrArg (World.drewN _) (Nat.add_assoc _ _ _))⟩)))
                        repeat (go_quiet (first | (go_at_call 15; (with_reducible refine (dovecotelaw07_built.calls k3 _ _ l0 t159 _ ?side1 ?side2 A24.out).mono ?_); (case side1 => repeat (first | exact (Kd.C_below HR0.out HB.out) | (with_reducible refine Kd.C_alloc ?_ _) | (with_reducible refine Kd.C_drewN ?_ _) | (with_reducible refine Kd.C_drew ?_))); (case side2 => exact HC0.out); rintro e w27 ⟨v160, rfl, ho0, hb⟩; have n0_ := Aside0.mk (Kd.R_elder' (by (with_reducible repeat (first | apply Kd.R_alloc | apply Kd.R_drewN | apply Kd.R_drew)); exact HO_8.out) (Kd.R_base ho0) hb); have n1_ := Aside0.mk (Kd.R_lower (Kd.R_new' ho0 (Kd.R_lt (by (with_reducible repeat (first | apply Kd.R_alloc | apply Kd.R_drewN | apply Kd.R_drew)); exact HO_8.out))) (below_size (by repeat (first | (with_reducible first | exact HB.out | apply below_alloc | apply pw_below_drewN | apply below_drew1) | exact HB.out)))); have n2_ := Aside0.mk (below_step (by repeat (first | (with_reducible first | exact HB.out | apply below_alloc | apply pw_below_drewN | apply below_drew1) | exact HB.out)) hb); clear HO_8; clear HB; have HO_8 := n0_; have HO161 := n1_; have HB := n2_; clear n0_ n1_ n2_; (try clear hb); (try clear hb2); (try clear hk); (try clear hi); (try clear ho0); obtain ⟨Ao28, co28, eo28⟩ := Kd.R_slice HO_8.out; subst eo28) | (go_at_call 15; (with_reducible refine (dovecotelaw07_built.calls k3 _ _ x8_3 t162 _ ?side1 ?side2 A25.out).mono ?_); (case side1 => repeat (first | exact (Kd.R_reads' HO_8.out).2.2 | (with_reducible refine Kd.C_alloc ?_ _) | (with_reducible refine Kd.C_drewN ?_ _) | (with_reducible refine Kd.C_drew ?_))); (case side2 => exact (Kd.R_reads' HO_8.out).2.1); rintro e w29 ⟨v163, rfl, ho0, hb⟩; have n0_ := Aside0.mk (Kd.R_elder' (by (with_reducible repeat (first | apply Kd.R_alloc | apply Kd.R_drewN | apply Kd.R_drew)); exact HO_8.out) (Kd.R_base ho0) hb); have n1_ := Aside0.mk (Kd.R_elder' (by (with_reducible repeat (first | apply Kd.R_alloc | apply Kd.R_drewN | apply Kd.R_drew)); exact HO161.out) (Kd.R_base ho0) hb); have n2_ := Aside0.mk (Kd.R_lower (Kd.R_new' (Kd.R_new' ho0 (Kd.R_lt (by (with_reducible repeat (first | apply Kd.R_alloc | apply Kd.R_drewN | apply Kd.R_drew)); exact HO_8.out))) (Kd.R_lt (by (with_reducible repeat (first | apply Kd.R_alloc | apply Kd.R_drewN | apply Kd.R_drew)); exact HO161.out))) (below_size (by repeat (first | (with_reducible first | exact HB.out | apply below_alloc | apply pw_below_drewN | apply below_drew1) | exact HB.out)))); have n3_ := Aside0.mk (below_step (by repeat (first | (with_reducible first | exact HB.out | apply below_alloc | apply pw_below_drewN | apply below_drew1) | exact HB.out)) hb); clear HO_8; clear HO161; clear HB; have HO_8 := n0_; have HO161 := n1_; have HO164 := n2_; have HB := n3_; clear n0_ n1_ n2_ n3_; (try clear hb); (try clear hb2); (try clear hk); (try clear hi); (try clear ho0); obtain ⟨Ao30, co30, eo30⟩ := Kd.R_slice HO161.out; subst eo30; obtain ⟨Ao31, co31, eo31⟩ := Kd.R_slice HO164.out; subst eo31) | (go_at_call 14; (with_reducible refine (dovecoteref07_Same.calls k3 _ _ t159 _ _ t162 t165 _ ?side1 ?side2 ?side3 ?side4 A26.out).mono ?_); (case side1 => repeat (first | exact (Kd.R_reads' HO161.out).2.2 | (with_reducible refine Kd.C_alloc ?_ _) | (with_reducible refine Kd.C_drewN ?_ _) | (with_reducible refine Kd.C_drew ?_))); (case side2 => exact (Kd.R_reads' HO161.out).2.1); (case side3 => repeat (first | exact (Kd.R_reads' HO164.out).2.2 | (with_reducible refine Kd.C_alloc ?_ _) | (with_reducible refine Kd.C_drewN ?_ _) | (with_reducible refine Kd.C_drew ?_))); (case side4 => exact (Kd.R_reads' HO164.out).2.1); rintro e w' ⟨rfl, ⟨nd, rfl⟩⟩; (try first | exact ⟨rfl, _, World.drewN_drewN _ _ _⟩ | exact ⟨rfl, _, Eq.trans (World.drewN_drewN _ _ _) (congrArg (World.drewN _) (Nat.add_assoc _ _ _))⟩))); try go_wp2_with (first | (go_at_call 15; (with_reducible refine (dovecotelaw07_built.calls k3 _ _ l0 t159 _ ?side1 ?side2 A24.out).mono ?_); (case side1 => repeat (first | exact (Kd.C_below HR0.out HB.out) | (with_reducible refine Kd.C_alloc ?_ _) | (with_reducible refine Kd.C_drewN ?_ _) | (with_reducible refine Kd.C_drew ?_))); (case side2 => exact HC0.out); rintro e w27 ⟨v160, rfl, ho0, hb⟩; have n0_ := Aside0.mk (Kd.R_elder' (by (with_reducible repeat (first | apply Kd.R_alloc | apply Kd.R_drewN | apply Kd.R_drew)); exact HO_8.out) (Kd.R_base ho0) hb); have n1_ := Aside0.mk (Kd.R_lower (Kd.R_new' ho0 (Kd.R_lt (by (with_reducible repeat (first | apply Kd.R_alloc | apply Kd.R_drewN | apply Kd.R_drew)); exact HO_8.out))) (below_size (by repeat (first | (with_reducible first | exact HB.out | apply below_alloc | apply pw_below_drewN | apply below_drew1) | exact HB.out)))); have n2_ := Aside0.mk (below_step (by repeat (first | (with_reducible first | exact HB.out | apply below_alloc | apply pw_below_drewN | apply below_drew1) | exact HB.out)) hb); clear HO_8; clear HB; have HO_8 := n0_; have HO161 := n1_; have HB := n2_; clear n0_ n1_ n2_; (try clear hb); (try clear hb2); (try clear hk); (try clear hi); (try clear ho0); obtain ⟨Ao28, co28, eo28⟩ := Kd.R_slice HO_8.out; subst eo28) | (go_at_call 15; (with_reducible refine (dovecotelaw07_built.calls k3 _ _ x8_3 t162 _ ?side1 ?side2 A25.out).mono ?_); (case side1 => repeat (first | exact (Kd.R_reads' HO_8.out).2.2 | (with_reducible refine Kd.C_alloc ?_ _) | (with_reducible refine Kd.C_drewN ?_ _) | (with_reducible refine Kd.C_drew ?_))); (case side2 => exact (Kd.R_reads' HO_8.out).2.1); rintro e w29 ⟨v163, rfl, ho0, hb⟩; have n0_ := Aside0.mk (Kd.R_elder' (by (with_reducible repeat (first | apply Kd.R_alloc | apply Kd.R_drewN | apply Kd.R_drew)); exact HO_8.out) (Kd.R_base ho0) hb); have n1_ := Aside0.mk (Kd.R_elder' (by (with_reducible repeat (first | apply Kd.R_alloc | apply Kd.R_drewN | apply Kd.R_drew)); exact HO161.out) (Kd.R_base ho0) hb); have n2_ := Aside0.mk (Kd.R_lower (Kd.R_new' (Kd.R_new' ho0 (Kd.R_lt (by (with_reducible repeat (first | apply Kd.R_alloc | apply Kd.R_drewN | apply Kd.R_drew)); exact HO_8.out))) (Kd.R_lt (by (with_reducible repeat (first | apply Kd.R_alloc | apply Kd.R_drewN | apply Kd.R_drew)); exact HO161.out))) (below_size (by repeat (first | (with_reducible first | exact HB.out | apply below_alloc | apply pw_below_drewN | apply below_drew1) | exact HB.out)))); have n3_ := Aside0.mk (below_step (by repeat (first | (with_reducible first | exact HB.out | apply below_alloc | apply pw_below_drewN | apply below_drew1) | exact HB.out)) hb); clear HO_8; clear HO161; clear HB; have HO_8 := n0_; have HO161 := n1_; have HO164 := n2_; have HB := n3_; clear n0_ n1_ n2_ n3_; (try clear hb); (try clear hb2); (try clear hk); (try clear hi); (try clear ho0); obtain ⟨Ao30, co30, eo30⟩ := Kd.R_slice HO161.out; subst eo30; obtain ⟨Ao31, co31, eo31⟩ := Kd.R_slice HO164.out; subst eo31) | (go_at_call 14; (with_reducible refine (dovecoteref07_Same.calls k3 _ _ t159 _ _ t162 t165 _ ?side1 ?side2 ?side3 ?side4 A26.out).mono ?_); (case side1 => repeat (first | exact (Kd.R_reads' HO161.out).2.2 | (with_reducible refine Kd.C_alloc ?_ _) | (with_reducible refine Kd.C_drewN ?_ _) | (with_reducible refine Kd.C_drew ?_))); (case side2 => exact (Kd.R_reads' HO161.out).2.1); (case side3 => repeat (first | exact (Kd.R_reads' HO164.out).2.2 | (with_reducible refine Kd.C_alloc ?_ _) | (with_reducible refine Kd.C_drewN ?_ _) | (with_reducible refine Kd.C_drew ?_))); (case side4 => exact (Kd.R_reads' HO164.out).2.1); rintro e w' ⟨rfl, ⟨nd, rfl⟩⟩; (try first | exact ⟨rfl, _, World.drewN_drewN _ _ _⟩ | exact ⟨rfl, _, Eq.trans (World.drewN_drewN _ _ _) (congrArg (World.drewN _) (Nat.add_assoc _ _ _))⟩))))
                        go_ret
                        exact ⟨by first | rfl | (simp [errW_none, errW_some] <;> rfl) | (simp [*, errW_none, errW_some] <;> rfl), by repeat (first | (with_reducible first | exact HB.out | apply below_alloc | apply pw_below_drewN | apply below_drew1) | exact HB.out)⟩
  · replace c4 := Bool.eq_false_iff.mpr c4
    subst c4
    have H1 : (some false) = some r := by rw [if_neg (show ¬ (false = true) by decide)] at H; exact H
    clear H
    have H := H1
    clear H1
    obtain rfl := Option.some.inj H
    go_enter Try.func3, Try.ntmps3
    go_wp2_with (first | (go_at_call 13; (with_reducible refine (dovecotelaw07_awake.calls k  false _ A3.out).mono ?_); rintro e w32 ⟨rfl, hb⟩; have n0_ := Aside0.mk (below_step (by repeat (first | (with_reducible first | exact HB.out | apply below_alloc | apply pw_below_drewN | apply below_drew1) | exact HB.out)) hb); clear HB; have HB := n0_; clear n0_; (try clear hb); (try clear hb2); (try clear hk); (try clear hi)))
    repeat (go_quiet (first | (go_at_call 13; (with_reducible refine (dovecotelaw07_awake.calls k  false _ A3.out).mono ?_); rintro e w32 ⟨rfl, hb⟩; have n0_ := Aside0.mk (below_step (by repeat (first | (with_reducible first | exact HB.out | apply below_alloc | apply pw_below_drewN | apply below_drew1) | exact HB.out)) hb); clear HB; have HB := n0_; clear n0_; (try clear hb); (try clear hb2); (try clear hk); (try clear hi))); try go_wp2_with (first | (go_at_call 13; (with_reducible refine (dovecotelaw07_awake.calls k  false _ A3.out).mono ?_); rintro e w32 ⟨rfl, hb⟩; have n0_ := Aside0.mk (below_step (by repeat (first | (with_reducible first | exact HB.out | apply below_alloc | apply pw_below_drewN | apply below_drew1) | exact HB.out)) hb); clear HB; have HB := n0_; clear n0_; (try clear hb); (try clear hb2); (try clear hk); (try clear hi))))
    go_ret
    exact ⟨by first | rfl | (simp [errW_none, errW_some] <;> rfl) | (simp [*, errW_none, errW_some] <;> rfl), by repeat (first | (with_reducible first | exact HB.out | apply below_alloc | apply pw_below_drewN | apply below_drew1) | exact HB.out)⟩

end Go.Proofs.Ytomcjcoehahikaa.MChainOrder
