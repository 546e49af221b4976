/- Printed by a program of the session's own (wip/myprint.sh): the kit's printer, with texts of the session's own for some functions. -/
import Derived.Test.YtomcjcoehahikaaMChainPrunesx0
import Derived.Test.YtomcjcoehahikaaMChainPrunesx1
import Derived.Test.YtomcjcoehahikaaMChainPrunesx6
import Derived.Test.YtomcjcoehahikaaMChainPrunesx7
namespace Go.Proofs.Ytomcjcoehahikaa.MChainPrunes
open Go.RowKit Go.Proofs.YtomcjcoehahikaaW.PrintWords Go.Proofs.YtomcjcoehahikaaW.PrintLast Go.Proofs.YtomcjcoehahikaaW.PrintMore
attribute [local go_sem] max2_int min2_int max_two min_two max_three min_three max_four min_four   -- for this text's walks alone
set_option linter.unusedVariables false
set_option linter.unusedSimpArgs false

attribute [local go_sem high] eqA27
/-! ### dovecotelaw07_ChainPrunes: function 6 -/
mutual
def dovecotelaw07_ChainPrunes.j0 : Nat → List (S31) → Bool → Int → Int → Int → Int → Int → Int → Int → Int → Option (Bool)
  | 0, _, _, _, _, _, _, _, _, _, _ => none
  | k + 1, x7, x43, x181000, x181001, x182000, x182001, x187000, x187001, x188000, x188001 => if x43 = true then (dovecotelaw07_ChainPrunes.j1 k x7 x182000 x182001 x181000 x181001) else (dovecotelaw07_ChainPrunes.j1 k x7 x187000 x187001 x188000 x188001)
def dovecotelaw07_ChainPrunes.j1 : Nat → List (S31) → Int → Int → Int → Int → Option (Bool)
  | 0, _, _, _, _, _ => none
  | k + 1, x7, x187000, x187001, x188000, x188001 => (chain_Prune.f k x7 x187000 x187001).bind fun t188 => ((chain_Prune.f k t188 x188000 x188001).bind fun t191 => ((chain_Prune.f k x7 x188000 x188001).bind fun t194 => ((dovecoteref07_Same.f k t191 t194).bind fun t197 => (if t197 = true then (if 0 ≤ (t188.length : Int) then (if (t188.length : Int) ≤ (x7.length : Int) then ((dovecoteref07_Same.f k t188 (x7.take ((t188.length : Int) : Int).toNat)).bind fun t202 => (dovecotelaw07_ChainPrunes.j2 k x7 t188 (!t202) x187000 x187001)) else (none)) else (none)) else (dovecotelaw07_ChainPrunes.j2 k x7 t188 true x187000 x187001)))))
def dovecotelaw07_ChainPrunes.j2 : Nat → List (S31) → List (S31) → Bool → Int → Int → Option (Bool)
  | 0, _, _, _, _, _ => none
  | k + 1, x7, x10, x65, x187000, x187001 => if x65 = true then (some false) else ((chain_Put.f k x10 281474976710656 4095 0 0 (⟨#[110, 101, 119]⟩ : ByteArray) false).bind fun bt204 => ((chain_Put.f k x7 281474976710656 4095 0 0 (⟨#[110, 101, 119]⟩ : ByteArray) false).bind fun bt208 => (if bt204.2 = 0 then (dovecotelaw07_ChainPrunes.j3 k x7 bt204.1 bt204.2 bt208.1 bt208.2 (bt208.2 != 0) x187000 x187001 281474976710656 4095 0 0 (⟨#[110, 101, 119]⟩ : ByteArray) false) else (dovecotelaw07_ChainPrunes.j3 k x7 bt204.1 bt204.2 bt208.1 bt208.2 true x187000 x187001 281474976710656 4095 0 0 (⟨#[110, 101, 119]⟩ : ByteArray) false))))
def dovecotelaw07_ChainPrunes.j3 : Nat → List (S31) → List (S31) → Int → List (S31) → Int → Bool → Int → Int → Int → Int → Int → Int → ByteArray → Bool → Option (Bool)
  | 0, _, _, _, _, _, _, _, _, _, _, _, _, _, _ => none
  | k + 1, x7, x12, x13, x14, x15, x85, x187000, x187001, x204000, x204001, x204002, x204003, x204004, x204005 => if x85 = true then (if x13 = x15 then (some true) else ((chain_Newest.f k x7).bind fun bt212 => (some (bt212.1 == x204000 && (bt212.2 == x204001))))) else (if x187000 ≥ 281474976710656 then (some true) else ((chain_Prune.f k x14 x187000 x187001).bind fun t214 => ((dovecoteref07_Same.f k x12 t214).bind fun t217 => (some t217))))
end
def dovecotelaw07_ChainPrunes.f (k : Nat) (l0 : List (S31)) (a1_0 : Int) (a1_1 : Int) (a2_0 : Int) (a2_1 : Int) : Option (Bool) := (dovecotelaw07_awake.f k).bind fun t182 => (if t182 = true then (if (l0.length : Int) > 60 then (some true) else ((dovecotelaw07_built.f k l0).bind fun t183 => (if a2_0 < a1_0 then (dovecotelaw07_ChainPrunes.j0 k t183 true a1_0 a1_1 a2_0 a2_1 a1_0 a1_1 a2_0 a2_1) else (if a2_0 = a1_0 then (dovecotelaw07_ChainPrunes.j0 k t183 (decide (a2_1 < a1_1)) a1_0 a1_1 a2_0 a2_1 a1_0 a1_1 a2_0 a2_1) else (dovecotelaw07_ChainPrunes.j0 k t183 false a1_0 a1_1 a2_0 a2_1 a1_0 a1_1 a2_0 a2_1))))) else (some false))
theorem dovecotelaw07_ChainPrunes.mono_l : ∀ k, (∀ y0 y1 y2 y3 y4 y5 y6 y7 y8 y9, LeO (dovecotelaw07_ChainPrunes.j0 k y0 y1 y2 y3 y4 y5 y6 y7 y8 y9) (dovecotelaw07_ChainPrunes.j0 (k + 1) y0 y1 y2 y3 y4 y5 y6 y7 y8 y9)) ∧ (∀ y0 y1 y2 y3 y4, LeO (dovecotelaw07_ChainPrunes.j1 k y0 y1 y2 y3 y4) (dovecotelaw07_ChainPrunes.j1 (k + 1) y0 y1 y2 y3 y4)) ∧ (∀ y0 y1 y2 y3 y4, LeO (dovecotelaw07_ChainPrunes.j2 k y0 y1 y2 y3 y4) (dovecotelaw07_ChainPrunes.j2 (k + 1) y0 y1 y2 y3 y4)) ∧ (∀ y0 y1 y2 y3 y4 y5 y6 y7 y8 y9 y10 y11 y12 y13, LeO (dovecotelaw07_ChainPrunes.j3 k y0 y1 y2 y3 y4 y5 y6 y7 y8 y9 y10 y11 y12 y13) (dovecotelaw07_ChainPrunes.j3 (k + 1) y0 y1 y2 y3 y4 y5 y6 y7 y8 y9 y10 y11 y12 y13))
  | 0 => ⟨fun _ _ _ _ _ _ _ _ _ _ r h => by simp [dovecotelaw07_ChainPrunes.j0] at h, fun _ _ _ _ _ r h => by simp [dovecotelaw07_ChainPrunes.j1] at h, fun _ _ _ _ _ r h => by simp [dovecotelaw07_ChainPrunes.j2] at h, fun _ _ _ _ _ _ _ _ _ _ _ _ _ _ r h => by simp [dovecotelaw07_ChainPrunes.j3] at h⟩
  | k + 1 => by
    obtain ⟨ih0, ih1, ih2, ih3⟩ := dovecotelaw07_ChainPrunes.mono_l k
    refine ⟨?_, ?_, ?_, ?_⟩
    · intro y0 y1 y2 y3 y4 y5 y6 y7 y8 y9
      unfold dovecotelaw07_ChainPrunes.j0
      repeat' first
      | (with_reducible exact ih0 _ _ _ _ _ _ _ _ _ _)
      | (with_reducible exact ih1 _ _ _ _ _)
      | (with_reducible exact ih2 _ _ _ _ _)
      | (with_reducible exact ih3 _ _ _ _ _ _ _ _ _ _ _ _ _ _)
      | (with_reducible exact chain_Newest.mono _ _)
      | (with_reducible exact chain_Prune.mono _ _ _ _)
      | (with_reducible exact chain_Put.mono _ _ _ _ _ _ _ _)
      | (with_reducible exact dovecotelaw07_awake.mono _)
      | (with_reducible exact dovecotelaw07_built.mono _ _)
      | (with_reducible exact dovecoteref07_Same.mono _ _ _)
      | (with_reducible exact LeO.refl _)
      | (with_reducible exact LeO.none _)
      | (with_reducible refine LeO.ite ?_ ?_)
      | (with_reducible refine LeO.bind ?_ (fun _ => ?_))
      | exact ih0 _ _ _ _ _ _ _ _ _ _
      | exact ih1 _ _ _ _ _
      | exact ih2 _ _ _ _ _
      | exact ih3 _ _ _ _ _ _ _ _ _ _ _ _ _ _
      | exact chain_Newest.mono _ _
      | exact chain_Prune.mono _ _ _ _
      | exact chain_Put.mono _ _ _ _ _ _ _ _
      | exact dovecotelaw07_awake.mono _
      | exact dovecotelaw07_built.mono _ _
      | exact dovecoteref07_Same.mono _ _ _
      | exact LeO.none _
      | refine LeO.ite ?_ ?_
      | refine LeO.bind ?_ (fun _ => ?_)
    · intro y0 y1 y2 y3 y4
      unfold dovecotelaw07_ChainPrunes.j1
      repeat' first
      | (with_reducible exact ih0 _ _ _ _ _ _ _ _ _ _)
      | (with_reducible exact ih1 _ _ _ _ _)
      | (with_reducible exact ih2 _ _ _ _ _)
      | (with_reducible exact ih3 _ _ _ _ _ _ _ _ _ _ _ _ _ _)
      | (with_reducible exact chain_Newest.mono _ _)
      | (with_reducible exact chain_Prune.mono _ _ _ _)
      | (with_reducible exact chain_Put.mono _ _ _ _ _ _ _ _)
      | (with_reducible exact dovecotelaw07_awake.mono _)
      | (with_reducible exact dovecotelaw07_built.mono _ _)
      | (with_reducible exact dovecoteref07_Same.mono _ _ _)
      | (with_reducible exact LeO.refl _)
      | (with_reducible exact LeO.none _)
      | (with_reducible refine LeO.ite ?_ ?_)
      | (with_reducible refine LeO.bind ?_ (fun _ => ?_))
      | exact ih0 _ _ _ _ _ _ _ _ _ _
      | exact ih1 _ _ _ _ _
      | exact ih2 _ _ _ _ _
      | exact ih3 _ _ _ _ _ _ _ _ _ _ _ _ _ _
      | exact chain_Newest.mono _ _
      | exact chain_Prune.mono _ _ _ _
      | exact chain_Put.mono _ _ _ _ _ _ _ _
      | exact dovecotelaw07_awake.mono _
      | exact dovecotelaw07_built.mono _ _
      | exact dovecoteref07_Same.mono _ _ _
      | exact LeO.none _
      | refine LeO.ite ?_ ?_
      | refine LeO.bind ?_ (fun _ => ?_)
    · intro y0 y1 y2 y3 y4
      unfold dovecotelaw07_ChainPrunes.j2
      repeat' first
      | (with_reducible exact ih0 _ _ _ _ _ _ _ _ _ _)
      | (with_reducible exact ih1 _ _ _ _ _)
      | (with_reducible exact ih2 _ _ _ _ _)
      | (with_reducible exact ih3 _ _ _ _ _ _ _ _ _ _ _ _ _ _)
      | (with_reducible exact chain_Newest.mono _ _)
      | (with_reducible exact chain_Prune.mono _ _ _ _)
      | (with_reducible exact chain_Put.mono _ _ _ _ _ _ _ _)
      | (with_reducible exact dovecotelaw07_awake.mono _)
      | (with_reducible exact dovecotelaw07_built.mono _ _)
      | (with_reducible exact dovecoteref07_Same.mono _ _ _)
      | (with_reducible exact LeO.refl _)
      | (with_reducible exact LeO.none _)
      | (with_reducible refine LeO.ite ?_ ?_)
      | (with_reducible refine LeO.bind ?_ (fun _ => ?_))
      | exact ih0 _ _ _ _ _ _ _ _ _ _
      | exact ih1 _ _ _ _ _
      | exact ih2 _ _ _ _ _
      | exact ih3 _ _ _ _ _ _ _ _ _ _ _ _ _ _
      | exact chain_Newest.mono _ _
      | exact chain_Prune.mono _ _ _ _
      | exact chain_Put.mono _ _ _ _ _ _ _ _
      | exact dovecotelaw07_awake.mono _
      | exact dovecotelaw07_built.mono _ _
      | exact dovecoteref07_Same.mono _ _ _
      | exact LeO.none _
      | refine LeO.ite ?_ ?_
      | refine LeO.bind ?_ (fun _ => ?_)
    · intro y0 y1 y2 y3 y4 y5 y6 y7 y8 y9 y10 y11 y12 y13
      unfold dovecotelaw07_ChainPrunes.j3
      repeat' first
      | (with_reducible exact ih0 _ _ _ _ _ _ _ _ _ _)
      | (with_reducible exact ih1 _ _ _ _ _)
      | (with_reducible exact ih2 _ _ _ _ _)
      | (with_reducible exact ih3 _ _ _ _ _ _ _ _ _ _ _ _ _ _)
      | (with_reducible exact chain_Newest.mono _ _)
      | (with_reducible exact chain_Prune.mono _ _ _ _)
      | (with_reducible exact chain_Put.mono _ _ _ _ _ _ _ _)
      | (with_reducible exact dovecotelaw07_awake.mono _)
      | (with_reducible exact dovecotelaw07_built.mono _ _)
      | (with_reducible exact dovecoteref07_Same.mono _ _ _)
      | (with_reducible exact LeO.refl _)
      | (with_reducible exact LeO.none _)
      | (with_reducible refine LeO.ite ?_ ?_)
      | (with_reducible refine LeO.bind ?_ (fun _ => ?_))
      | exact ih0 _ _ _ _ _ _ _ _ _ _
      | exact ih1 _ _ _ _ _
      | exact ih2 _ _ _ _ _
      | exact ih3 _ _ _ _ _ _ _ _ _ _ _ _ _ _
      | exact chain_Newest.mono _ _
      | exact chain_Prune.mono _ _ _ _
      | exact chain_Put.mono _ _ _ _ _ _ _ _
      | exact dovecotelaw07_awake.mono _
      | exact dovecotelaw07_built.mono _ _
      | exact dovecoteref07_Same.mono _ _ _
      | exact LeO.none _
      | refine LeO.ite ?_ ?_
      | refine LeO.bind ?_ (fun _ => ?_)
theorem dovecotelaw07_ChainPrunes.mono : ∀ a0 a1 a2 a3 a4 k, LeO (dovecotelaw07_ChainPrunes.f k a0 a1 a2 a3 a4) (dovecotelaw07_ChainPrunes.f (k + 1) a0 a1 a2 a3 a4) := by
  intro a0 a1 a2 a3 a4 k
  obtain ⟨ih0, ih1, ih2, ih3⟩ := dovecotelaw07_ChainPrunes.mono_l k
  unfold dovecotelaw07_ChainPrunes.f
  repeat' first
      | (with_reducible exact ih0 _ _ _ _ _ _ _ _ _ _)
      | (with_reducible exact ih1 _ _ _ _ _)
      | (with_reducible exact ih2 _ _ _ _ _)
      | (with_reducible exact ih3 _ _ _ _ _ _ _ _ _ _ _ _ _ _)
      | (with_reducible exact chain_Newest.mono _ _)
      | (with_reducible exact chain_Prune.mono _ _ _ _)
      | (with_reducible exact chain_Put.mono _ _ _ _ _ _ _ _)
      | (with_reducible exact dovecotelaw07_awake.mono _)
      | (with_reducible exact dovecotelaw07_built.mono _ _)
      | (with_reducible exact dovecoteref07_Same.mono _ _ _)
      | (with_reducible exact LeO.refl _)
      | (with_reducible exact LeO.none _)
      | (with_reducible refine LeO.ite ?_ ?_)
      | (with_reducible refine LeO.bind ?_ (fun _ => ?_))
      | exact ih0 _ _ _ _ _ _ _ _ _ _
      | exact ih1 _ _ _ _ _
      | exact ih2 _ _ _ _ _
      | exact ih3 _ _ _ _ _ _ _ _ _ _ _ _ _ _
      | exact chain_Newest.mono _ _
      | exact chain_Prune.mono _ _ _ _
      | exact chain_Put.mono _ _ _ _ _ _ _ _
      | exact dovecotelaw07_awake.mono _
      | exact dovecotelaw07_built.mono _ _
      | exact dovecoteref07_Same.mono _ _ _
      | exact LeO.none _
      | refine LeO.ite ?_ ?_
      | refine LeO.bind ?_ (fun _ => ?_)
def dovecotelaw07_ChainPrunes.T10 : Bool × List (List Nat × List Nat) := (true, [([], []), ([], []), ([0, 1], [0, 1]), ([], []), ([], []), ([3, 4, 2], [3, 4]), ([2, 5, 5], [2, 5]), ([6], [6]), ([7, 6], [7]), ([8], [8]), ([8], [8]), ([8], [8]), ([11, 8], [8, 11]), ([10, 12, 8], [8, 10, 12]), ([9, 13, 8, 8], [8, 9, 13]), ([14, 8], [8, 14]), ([8, 15], [8, 15])])
def dovecotelaw07_ChainPrunes.B10 : List Nat := [0, 0, 3, 0, 0, 31, 63, 127, 255, 511, 511, 511, 2559, 7679, 16383, 32767, 65535]
theorem dovecotelaw07_ChainPrunes.tab10 : rtab .any (opsOf Try.f6 10) = dovecotelaw07_ChainPrunes.T10 := by kernel_rfl
theorem dovecotelaw07_ChainPrunes.bits10 : waitsOk dovecotelaw07_ChainPrunes.T10.2 dovecotelaw07_ChainPrunes.B10 = true := by kernel_rfl
def dovecotelaw07_ChainPrunes.T16 : Bool × List (List Nat × List Nat) := (true, [([], []), ([], []), ([0, 1], [0, 1]), ([2], [2]), ([3], [3]), ([4, 3, 3], [3, 4]), ([3], [3]), ([6, 3], [3, 6]), ([5, 7, 3], [3, 5, 7]), ([3, 8], [3, 8]), ([9, 5, 0, 1, 2, 3, 4, 5, 6, 7, 8, 9], [9])])
def dovecotelaw07_ChainPrunes.B16 : List Nat := [0, 0, 3, 7, 15, 31, 15, 79, 255, 511, 1023]
theorem dovecotelaw07_ChainPrunes.tab16 : rtab .any (opsOf Try.f6 16) = dovecotelaw07_ChainPrunes.T16 := by kernel_rfl
theorem dovecotelaw07_ChainPrunes.bits16 : waitsOk dovecotelaw07_ChainPrunes.T16.2 dovecotelaw07_ChainPrunes.B16 = true := by kernel_rfl
set_option maxHeartbeats 8000000 in
set_option maxRecDepth 100000 in
theorem dovecotelaw07_ChainPrunes.calls (k : Nat) (A0 : Option Addr) (c0 : Nat) (l0 : List (S31)) (a1_0 : Int) (a1_1 : Int) (a2_0 : Int) (a2_1 : Int) (r : Bool) (w : World) (hr0 : Kd.C k31 w A0 l0.length l0) (hc0 : l0.length ≤ c0) (h : dovecotelaw07_ChainPrunes.f k l0 a1_0 a1_1 a2_0 a2_1 = some r) :
    Calls Try.prog 6 #[.slice A0 l0.length c0, .agg #[.int .u64 a1_0, .int .u32 a1_1], .agg #[.int .u64 a2_0, .int .u32 a2_1]] w fun e w' => e = .returned (.bool r) ∧ Below w.heap.size w w' := by
  have hu27 := Try.underlying27
  have hu31 := Try.underlying31
  have HR0 := Aside0.mk hr0
  have HC0 := Aside0.mk hc0
  clear hr0 hc0
  have HB := Aside0.mk (Below.refl w.heap.size w)
  have H : ((dovecotelaw07_awake.f k).bind fun t182 => (if t182 = true then (if (l0.length : Int) > 60 then (some true) else ((dovecotelaw07_built.f k l0).bind fun t183 => (if a2_0 < a1_0 then (dovecotelaw07_ChainPrunes.j0 k t183 true a1_0 a1_1 a2_0 a2_1 a1_0 a1_1 a2_0 a2_1) else (if a2_0 = a1_0 then (dovecotelaw07_ChainPrunes.j0 k t183 (decide (a2_1 < a1_1)) a1_0 a1_1 a2_0 a2_1 a1_0 a1_1 a2_0 a2_1) else (dovecotelaw07_ChainPrunes.j0 k t183 false a1_0 a1_1 a2_0 a2_1 a1_0 a1_1 a2_0 a2_1))))) else (some false))) = some r := h
  clear h
  replace H := Option.bind_eq_some_iff.mp H
  obtain ⟨t182, A40, H⟩ := H
  replace H : (if t182 = true then (if (l0.length : Int) > 60 then (some true) else ((dovecotelaw07_built.f k l0).bind fun t183 => (if a2_0 < a1_0 then (dovecotelaw07_ChainPrunes.j0 k t183 true a1_0 a1_1 a2_0 a2_1 a1_0 a1_1 a2_0 a2_1) else (if a2_0 = a1_0 then (dovecotelaw07_ChainPrunes.j0 k t183 (decide (a2_1 < a1_1)) a1_0 a1_1 a2_0 a2_1 a1_0 a1_1 a2_0 a2_1) else (dovecotelaw07_ChainPrunes.j0 k t183 false a1_0 a1_1 a2_0 a2_1 a1_0 a1_1 a2_0 a2_1))))) else (some false)) = some r := H
  have A4 := Aside0.mk A40
  clear A40
  by_cases c5 : t182 = true
  · subst c5
    have H1 : (if (l0.length : Int) > 60 then (some true) else ((dovecotelaw07_built.f k l0).bind fun t183 => (if a2_0 < a1_0 then (dovecotelaw07_ChainPrunes.j0 k t183 true a1_0 a1_1 a2_0 a2_1 a1_0 a1_1 a2_0 a2_1) else (if a2_0 = a1_0 then (dovecotelaw07_ChainPrunes.j0 k t183 (decide (a2_1 < a1_1)) a1_0 a1_1 a2_0 a2_1 a1_0 a1_1 a2_0 a2_1) else (dovecotelaw07_ChainPrunes.j0 k t183 false a1_0 a1_1 a2_0 a2_1 a1_0 a1_1 a2_0 a2_1))))) = some r := by rw [if_pos rfl] at H; exact H
    clear H
    have H := H1
    clear H1
    by_cases c6 : (l0.length : Int) > 60
    · rw [if_pos c6] at H
      have c6b0 : decide (60 < (l0.length : Int)) = true := decide_eq_true c6
      have c6b1 : decide (60 < l0.length) = true := decide_eq_true (by omega)
      clear c6
      obtain rfl := Option.some.inj H
      go_enter Try.func6, Try.ntmps6
      go_wp2_with (first | ((with_reducible refine gate_dst (N := 4) rfl ?_); (try (refine gate_guard (by rfl) ?_; dsimp only)); refine box_event ?hg (N := 4) ?hd (cs := #[.int .u64 a1_0, .int .u32 a1_1]) (t := 27) ?hr ?_; (case hd => rfl); (case hg => rfl); (case hr => first | (go_simp; done) | (go_simp; rfl)); intro gb180 hg w7 hbox hb; have n0_ := Aside0.mk (below_step (by repeat (first | (with_reducible first | exact HB.out | apply below_alloc | apply pw_below_drewN | apply below_drew1) | exact HB.out)) hb); have n1_ := Aside0.mk (hbox); have n2_ := Aside0.mk ((by rw [hg]; exact (below_size (by repeat (first | (with_reducible first | exact HB.out | apply below_alloc | apply pw_below_drewN | apply below_drew1) | exact HB.out))) : w.heap.size ≤ gb180)); have n3_ := Aside0.mk ((by rw [hg]; exact (below_size (by repeat (first | (with_reducible first | exact HB.out | apply below_alloc | apply pw_below_drewN | apply below_drew1) | exact HB.out))) : w.heap.size ≤ gb180)); clear HB; have HB := n0_; have BK180 := n1_; have GW180 := n2_; have GE180 := n3_; clear n0_ n1_ n2_ n3_; clear hb hbox hg) | ((with_reducible refine gate_dst (N := 5) rfl ?_); (try (refine gate_guard (by rfl) ?_; dsimp only)); refine box_event ?hg (N := 5) ?hd (cs := #[.int .u64 a2_0, .int .u32 a2_1]) (t := 27) ?hr ?_; (case hd => rfl); (case hg => rfl); (case hr => first | (go_simp; done) | (go_simp; rfl)); intro gb181 hg w8 hbox hb; have n0_ := Aside0.mk (blk_below (g := gb180) (o := .cells #[.int .u64 a1_0, .int .u32 a1_1] 27 (0, 0)) (by (with_reducible repeat (first | refine blk_drewN ?_ _ | refine blk_drew ?_ | refine blk_alloc ?_ _)); exact BK180.out) hb); have n1_ := Aside0.mk (below_step (by repeat (first | (with_reducible first | exact HB.out | apply below_alloc | apply pw_below_drewN | apply below_drew1 | refine below_set ?_ GE180.out) | exact HB.out)) hb); have n2_ := Aside0.mk (hbox); have n3_ := Aside0.mk ((by rw [hg]; exact (below_size (by repeat (first | (with_reducible first | exact HB.out | apply below_alloc | apply pw_below_drewN | apply below_drew1 | refine below_set ?_ GE180.out) | exact HB.out))) : w.heap.size ≤ gb181)); have n4_ := Aside0.mk ((by rw [hg]; exact (below_size (by repeat (first | (with_reducible first | exact HB.out | apply below_alloc | apply pw_below_drewN | apply below_drew1 | refine below_set ?_ GE180.out) | exact HB.out))) : w.heap.size ≤ gb181)); have n5_ := Aside0.mk ((by rw [hg]; exact Nat.ne_of_lt (blk_lt (g := gb180) (o := .cells #[.int .u64 a1_0, .int .u32 a1_1] 27 (0, 0)) (by (with_reducible repeat (first | refine blk_drewN ?_ _ | refine blk_drew ?_ | refine blk_alloc ?_ _)); exact BK180.out)) : gb180 ≠ gb181)); have n6_ := Aside0.mk ((by rw [hg]; exact Nat.ne_of_gt (blk_lt (g := gb180) (o := .cells #[.int .u64 a1_0, .int .u32 a1_1] 27 (0, 0)) (by (with_reducible repeat (first | refine blk_drewN ?_ _ | refine blk_drew ?_ | refine blk_alloc ?_ _)); exact BK180.out)) : gb181 ≠ gb180)); clear BK180; clear HB; have BK180 := n0_; have HB := n1_; have BK181 := n2_; have GW181 := n3_; have GE181 := n4_; have NB180_181 := n5_; have NB181_180 := n6_; clear n0_ n1_ n2_ n3_ n4_ n5_ n6_; clear hb hbox hg) | ((with_reducible refine gate_callee (f := 13) rfl ?_); refine goesL_ (some 16) rfl rfl Try.func13 (by kernel_rfl) rfl #[] rfl (by (try simp only [List.map_toArray, List.map_cons, List.map_nil]); first | done | rfl | (simp only [List.length_drop, List.length_take]; rfl)) ?_; (with_reducible refine (dovecotelaw07_awake.calls k  true _ A4.out).mono ?_); rintro e w9 ⟨rfl, hb⟩; refine ⟨_, rfl, ?_⟩; have n0_ := Aside0.mk (blk_below (g := gb180) (o := .cells #[.int .u64 a1_0, .int .u32 a1_1] 27 (0, 0)) (by (with_reducible repeat (first | refine blk_drewN ?_ _ | refine blk_drew ?_ | refine blk_alloc ?_ _)); exact BK180.out) hb); have n1_ := Aside0.mk (blk_below (g := gb181) (o := .cells #[.int .u64 a2_0, .int .u32 a2_1] 27 (0, 0)) (by (with_reducible repeat (first | refine blk_drewN ?_ _ | refine blk_drew ?_ | refine blk_alloc ?_ _)); exact BK181.out) hb); have n2_ := Aside0.mk (below_step (by repeat (first | (with_reducible first | exact HB.out | apply below_alloc | apply pw_below_drewN | apply below_drew1 | refine below_set ?_ GE180.out | refine below_set ?_ GE181.out) | exact HB.out)) hb); clear BK180; clear BK181; clear HB; have BK180 := n0_; have BK181 := n1_; have HB := n2_; clear n0_ n1_ n2_; (try clear hb); (try clear hb2); (try clear hk); (try clear hi)))
      go_ret
      exact ⟨by first | rfl | (simp [errW_none, errW_some] <;> rfl) | (simp [*, errW_none, errW_some] <;> rfl), by repeat (first | (with_reducible first | exact HB.out | apply below_alloc | apply pw_below_drewN | apply below_drew1 | refine below_set ?_ GE180.out | refine below_set ?_ GE181.out) | exact HB.out)⟩
    · rw [if_neg c6] at H
      have c6b0 : decide (60 < (l0.length : Int)) = false := decide_eq_false c6
      have c6b1 : decide (60 < l0.length) = false := decide_eq_false (by omega)
      clear c6
      replace H := Option.bind_eq_some_iff.mp H
      obtain ⟨t183, A100, H⟩ := H
      replace H : (if a2_0 < a1_0 then (dovecotelaw07_ChainPrunes.j0 k t183 true a1_0 a1_1 a2_0 a2_1 a1_0 a1_1 a2_0 a2_1) else (if a2_0 = a1_0 then (dovecotelaw07_ChainPrunes.j0 k t183 (decide (a2_1 < a1_1)) a1_0 a1_1 a2_0 a2_1 a1_0 a1_1 a2_0 a2_1) else (dovecotelaw07_ChainPrunes.j0 k t183 false a1_0 a1_1 a2_0 a2_1 a1_0 a1_1 a2_0 a2_1))) = some r := H
      have A10 := Aside0.mk A100
      clear A100
      have HC11 := Aside0.mk H
      clear H
      go_enter Try.func6, Try.ntmps6
      try go_wp2_with (first | ((with_reducible refine gate_dst (N := 4) rfl ?_); (try (refine gate_guard (by rfl) ?_; dsimp only)); refine box_event ?hg (N := 4) ?hd (cs := #[.int .u64 a1_0, .int .u32 a1_1]) (t := 27) ?hr ?_; (case hd => rfl); (case hg => rfl); (case hr => first | (go_simp; done) | (go_simp; rfl)); intro gb180 hg w12 hbox hb; have n0_ := Aside0.mk (below_step (by repeat (first | (with_reducible first | exact HB.out | apply below_alloc | apply pw_below_drewN | apply below_drew1) | exact HB.out)) hb); have n1_ := Aside0.mk (hbox); have n2_ := Aside0.mk ((by rw [hg]; exact (below_size (by repeat (first | (with_reducible first | exact HB.out | apply below_alloc | apply pw_below_drewN | apply below_drew1) | exact HB.out))) : w.heap.size ≤ gb180)); have n3_ := Aside0.mk ((by rw [hg]; exact (below_size (by repeat (first | (with_reducible first | exact HB.out | apply below_alloc | apply pw_below_drewN | apply below_drew1) | exact HB.out))) : w.heap.size ≤ gb180)); clear HB; have HB := n0_; have BK180 := n1_; have GW180 := n2_; have GE180 := n3_; clear n0_ n1_ n2_ n3_; clear hb hbox hg) | ((with_reducible refine gate_dst (N := 5) rfl ?_); (try (refine gate_guard (by rfl) ?_; dsimp only)); refine box_event ?hg (N := 5) ?hd (cs := #[.int .u64 a2_0, .int .u32 a2_1]) (t := 27) ?hr ?_; (case hd => rfl); (case hg => rfl); (case hr => first | (go_simp; done) | (go_simp; rfl)); intro gb181 hg w13 hbox hb; have n0_ := Aside0.mk (blk_below (g := gb180) (o := .cells #[.int .u64 a1_0, .int .u32 a1_1] 27 (0, 0)) (by (with_reducible repeat (first | refine blk_drewN ?_ _ | refine blk_drew ?_ | refine blk_alloc ?_ _)); exact BK180.out) hb); have n1_ := Aside0.mk (below_step (by repeat (first | (with_reducible first | exact HB.out | apply below_alloc | apply pw_below_drewN | apply below_drew1 | refine below_set ?_ GE180.out) | exact HB.out)) hb); have n2_ := Aside0.mk (hbox); have n3_ := Aside0.mk ((by rw [hg]; exact (below_size (by repeat (first | (with_reducible first | exact HB.out | apply below_alloc | apply pw_below_drewN | apply below_drew1 | refine below_set ?_ GE180.out) | exact HB.out))) : w.heap.size ≤ gb181)); have n4_ := Aside0.mk ((by rw [hg]; exact (below_size (by repeat (first | (with_reducible first | exact HB.out | apply below_alloc | apply pw_below_drewN | apply below_drew1 | refine below_set ?_ GE180.out) | exact HB.out))) : w.heap.size ≤ gb181)); have n5_ := Aside0.mk ((by rw [hg]; exact Nat.ne_of_lt (blk_lt (g := gb180) (o := .cells #[.int .u64 a1_0, .int .u32 a1_1] 27 (0, 0)) (by (with_reducible repeat (first | refine blk_drewN ?_ _ | refine blk_drew ?_ | refine blk_alloc ?_ _)); exact BK180.out)) : gb180 ≠ gb181)); have n6_ := Aside0.mk ((by rw [hg]; exact Nat.ne_of_gt (blk_lt (g := gb180) (o := .cells #[.int .u64 a1_0, .int .u32 a1_1] 27 (0, 0)) (by (with_reducible repeat (first | refine blk_drewN ?_ _ | refine blk_drew ?_ | refine blk_alloc ?_ _)); exact BK180.out)) : gb181 ≠ gb180)); clear BK180; clear HB; have BK180 := n0_; have HB := n1_; have BK181 := n2_; have GW181 := n3_; have GE181 := n4_; have NB180_181 := n5_; have NB181_180 := n6_; clear n0_ n1_ n2_ n3_ n4_ n5_ n6_; clear hb hbox hg) | ((with_reducible refine gate_callee (f := 13) rfl ?_); refine goesL_ (some 16) rfl rfl Try.func13 (by kernel_rfl) rfl #[] rfl (by (try simp only [List.map_toArray, List.map_cons, List.map_nil]); first | done | rfl | (simp only [List.length_drop, List.length_take]; rfl)) ?_; (with_reducible refine (dovecotelaw07_awake.calls k  true _ A4.out).mono ?_); rintro e w14 ⟨rfl, hb⟩; refine ⟨_, rfl, ?_⟩; have n0_ := Aside0.mk (blk_below (g := gb180) (o := .cells #[.int .u64 a1_0, .int .u32 a1_1] 27 (0, 0)) (by (with_reducible repeat (first | refine blk_drewN ?_ _ | refine blk_drew ?_ | refine blk_alloc ?_ _)); exact BK180.out) hb); have n1_ := Aside0.mk (blk_below (g := gb181) (o := .cells #[.int .u64 a2_0, .int .u32 a2_1] 27 (0, 0)) (by (with_reducible repeat (first | refine blk_drewN ?_ _ | refine blk_drew ?_ | refine blk_alloc ?_ _)); exact BK181.out) hb); have n2_ := Aside0.mk (below_step (by repeat (first | (with_reducible first | exact HB.out | apply below_alloc | apply pw_below_drewN | apply below_drew1 | refine below_set ?_ GE180.out | refine below_set ?_ GE181.out) | exact HB.out)) hb); clear BK180; clear BK181; clear HB; have BK180 := n0_; have BK181 := n1_; have HB := n2_; clear n0_ n1_ n2_; (try clear hb); (try clear hb2); (try clear hk); (try clear hi)) | ((with_reducible refine gate_callee (f := 15) rfl ?_); refine goesL_ (some 22) rfl rfl Try.func15 (by kernel_rfl) rfl #[.slice A0 l0.length c0] rfl (by (try simp only [List.map_toArray, List.map_cons, List.map_nil]); first | done | rfl | (simp only [List.length_drop, List.length_take]; rfl)) ?_; (with_reducible refine (dovecotelaw07_built.calls k _ _ l0 t183 _ ?side1 ?side2 A10.out).mono ?_); (case side1 => repeat (first | exact (Kd.C_below HR0.out HB.out) | (with_reducible refine Kd.C_alloc ?_ _) | (with_reducible refine Kd.C_drewN ?_ _) | (with_reducible refine Kd.C_drew ?_))); (case side2 => exact HC0.out); rintro e w15 ⟨v184, rfl, ho0, hb⟩; refine ⟨_, rfl, ?_⟩; have n0_ := Aside0.mk (Kd.R_lower ho0 (below_size (by repeat (first | (with_reducible first | exact HB.out | apply below_alloc | apply pw_below_drewN | apply below_drew1 | refine below_set ?_ GE180.out | refine below_set ?_ GE181.out) | exact HB.out)))); have n1_ := Aside0.mk (blk_below (g := gb180) (o := .cells #[.int .u64 a1_0, .int .u32 a1_1] 27 (0, 0)) (by (with_reducible repeat (first | refine blk_drewN ?_ _ | refine blk_drew ?_ | refine blk_alloc ?_ _)); exact BK180.out) hb); have n2_ := Aside0.mk (blk_below (g := gb181) (o := .cells #[.int .u64 a2_0, .int .u32 a2_1] 27 (0, 0)) (by (with_reducible repeat (first | refine blk_drewN ?_ _ | refine blk_drew ?_ | refine blk_alloc ?_ _)); exact BK181.out) hb); have n3_ := Aside0.mk (below_step (by repeat (first | (with_reducible first | exact HB.out | apply below_alloc | apply pw_below_drewN | apply below_drew1 | refine below_set ?_ GE180.out | refine below_set ?_ GE181.out) | exact HB.out)) hb); clear BK180; clear BK181; clear HB; have HO185 := n0_; have BK180 := n1_; have BK181 := n2_; have HB := n3_; clear n0_ n1_ n2_ n3_; (try clear hb); (try clear hb2); (try clear hk); (try clear hi); (try clear ho0)))
      have n0_ := Aside0.mk (Kd.R_drew HO185.out)
      have n1_ := Aside0.mk (blk_drew BK180.out)
      have n2_ := Aside0.mk (blk_drew BK181.out)
      have n3_ := Aside0.mk (below_drew1 HB.out)
      clear HO185
      clear BK180
      clear BK181
      clear HB
      have HO185 := n0_
      have BK180 := n1_
      have BK181 := n2_
      have HB := n3_
      clear n0_ n1_ n2_ n3_
      refine start_ (n := 6) (S := fun w' => w'.cell? ⟨gb180, 0, none⟩ = some (.int .u64 a1_0) ∧ w'.cell? ⟨gb180, 1, none⟩ = some (.int .u32 a1_1) ∧ w'.cell? ⟨gb181, 0, none⟩ = some (.int .u64 a2_0) ∧ w'.cell? ⟨gb181, 1, none⟩ = some (.int .u32 a2_1)) (ds := []) #[false, false, false, false, false, false] (by kernel_rfl) rfl rfl ⟨(blk_cell BK180.out 0).trans rfl, (blk_cell BK180.out 1).trans rfl, (blk_cell BK181.out 0).trans rfl, (blk_cell BK181.out 1).trans rfl⟩ (fun hHeld => ?_)
      generalize w15.drew = w16 at HO185 BK180 BK181 HB hHeld ⊢
      refine take_ (i := 0) (N := some 23) (v := ?_) (a' := ?_) #[true, false, false, false, false, false] rfl rfl (by kernel_rfl) (fun _ _ _ h => h) (Or.inl ⟨by rfl, ?_⟩) hHeld ?_ ?_
      rotate_left
      · rintro w' ⟨s0, s1, s2, s3⟩
        go_simp
        with_reducible rfl
      rotate_left
      · simp only [Act.put, List.setIfInBounds_toArray, List.set_cons_zero, List.set_cons_succ, i64_w, i32_w]
        rfl
      refine take_ (i := 1) (N := some 24) (v := ?_) (a' := ?_) #[true, true, false, false, false, false] rfl rfl (by kernel_rfl) (fun _ _ _ h => h) (Or.inl ⟨by rfl, ?_⟩) hHeld ?_ ?_
      rotate_left
      · rintro w' ⟨s0, s1, s2, s3⟩
        go_simp
        with_reducible rfl
      rotate_left
      · simp only [Act.put, List.setIfInBounds_toArray, List.set_cons_zero, List.set_cons_succ, i64_w, i32_w]
        rfl
      refine join_ (σ := Nat × Nat) 2 #[true, true, true, true, false, false] (fun s_ => [(8, .pointer (some ⟨s_.1, 0, none⟩)), (9, .pointer (some ⟨s_.2, 0, none⟩))]) (fun s_ w' => (w'.cell? ⟨gb180, 0, none⟩ = some (.int .u64 a1_0) ∧ w'.cell? ⟨gb180, 1, none⟩ = some (.int .u32 a1_1) ∧ w'.cell? ⟨gb181, 0, none⟩ = some (.int .u64 a2_0) ∧ w'.cell? ⟨gb181, 1, none⟩ = some (.int .u32 a2_1)) ∧ (Kd.R k31 31 w' w.heap.size (fun _ => True) v184 t183) ∧ (w'.heap[gb180]? = some (.cells #[.int .u64 a1_0, .int .u32 a1_1] 27 (0, 0))) ∧ (w'.heap[gb181]? = some (.cells #[.int .u64 a2_0, .int .u32 a2_1] 27 (0, 0))) ∧ (w'.heap[s_.1]? = some (.cells #[.int .u64 0, .int .u32 0] 27 (0, 0))) ∧ (w'.heap[s_.2]? = some (.cells #[.int .u64 0, .int .u32 0] 27 (0, 0))) ∧ (w.heap.size ≤ s_.1) ∧ (w.heap.size ≤ s_.1) ∧ (gb180 ≠ s_.1) ∧ (s_.1 ≠ gb180) ∧ (gb181 ≠ s_.1) ∧ (s_.1 ≠ gb181) ∧ (s_.2 ≠ s_.1) ∧ (s_.1 ≠ s_.2) ∧ (w.heap.size ≤ s_.2) ∧ (w.heap.size ≤ s_.2) ∧ (gb180 ≠ s_.2) ∧ (s_.2 ≠ gb180) ∧ (gb181 ≠ s_.2) ∧ (s_.2 ≠ gb181) ∧ (Below w.heap.size w w')) ?_ ?_
      rotate_left
      · intro hCont
        refine two_ (i := 2) (j := 3) (Ni := some 8) (Nj := some 9) #[true, true, true, false, false, false] #[true, true, false, true, false, false] rfl rfl rfl rfl (by kernel_rfl) (by decide) (by decide) (fun K hK => ?_) (fun K hK => ?_)
        · skip
          refine box_step ?hg (N := 8) ?hd (cs := #[.int .u64 0, .int .u32 0]) (t := 27) ?hr ?_; (case hd => rfl); (case hg => rfl); (case hr => first | (go_simp; done) | (go_simp; rfl))
          intro gb186 hg w17 hbox hb
          have n0_ := Aside0.mk (Kd.R_below (by (with_reducible repeat (first | apply Kd.R_alloc | apply Kd.R_drewN | apply Kd.R_drew)); exact HO185.out) hb)
          have n1_ := Aside0.mk (blk_below (g := gb180) (o := .cells #[.int .u64 a1_0, .int .u32 a1_1] 27 (0, 0)) (by (with_reducible repeat (first | refine blk_drewN ?_ _ | refine blk_drew ?_ | refine blk_alloc ?_ _)); exact BK180.out) hb)
          have n2_ := Aside0.mk (blk_below (g := gb181) (o := .cells #[.int .u64 a2_0, .int .u32 a2_1] 27 (0, 0)) (by (with_reducible repeat (first | refine blk_drewN ?_ _ | refine blk_drew ?_ | refine blk_alloc ?_ _)); exact BK181.out) hb)
          have n3_ := Aside0.mk (below_step (by repeat (first | (with_reducible first | exact HB.out | apply below_alloc | apply pw_below_drewN | apply below_drew1 | refine below_set ?_ GE180.out | refine below_set ?_ GE181.out) | exact HB.out)) hb)
          have n4_ := Aside0.mk (hbox)
          have n5_ := Aside0.mk ((by rw [hg]; exact (below_size (by repeat (first | (with_reducible first | exact HB.out | apply below_alloc | apply pw_below_drewN | apply below_drew1 | refine below_set ?_ GE180.out | refine below_set ?_ GE181.out) | exact HB.out))) : w.heap.size ≤ gb186))
          have n6_ := Aside0.mk ((by rw [hg]; exact (below_size (by repeat (first | (with_reducible first | exact HB.out | apply below_alloc | apply pw_below_drewN | apply below_drew1 | refine below_set ?_ GE180.out | refine below_set ?_ GE181.out) | exact HB.out))) : w.heap.size ≤ gb186))
          have n7_ := Aside0.mk ((by rw [hg]; exact Nat.ne_of_lt (blk_lt (g := gb180) (o := .cells #[.int .u64 a1_0, .int .u32 a1_1] 27 (0, 0)) (by (with_reducible repeat (first | refine blk_drewN ?_ _ | refine blk_drew ?_ | refine blk_alloc ?_ _)); exact BK180.out)) : gb180 ≠ gb186))
          have n8_ := Aside0.mk ((by rw [hg]; exact Nat.ne_of_gt (blk_lt (g := gb180) (o := .cells #[.int .u64 a1_0, .int .u32 a1_1] 27 (0, 0)) (by (with_reducible repeat (first | refine blk_drewN ?_ _ | refine blk_drew ?_ | refine blk_alloc ?_ _)); exact BK180.out)) : gb186 ≠ gb180))
          have n9_ := Aside0.mk ((by rw [hg]; exact Nat.ne_of_lt (blk_lt (g := gb181) (o := .cells #[.int .u64 a2_0, .int .u32 a2_1] 27 (0, 0)) (by (with_reducible repeat (first | refine blk_drewN ?_ _ | refine blk_drew ?_ | refine blk_alloc ?_ _)); exact BK181.out)) : gb181 ≠ gb186))
          have n10_ := Aside0.mk ((by rw [hg]; exact Nat.ne_of_gt (blk_lt (g := gb181) (o := .cells #[.int .u64 a2_0, .int .u32 a2_1] 27 (0, 0)) (by (with_reducible repeat (first | refine blk_drewN ?_ _ | refine blk_drew ?_ | refine blk_alloc ?_ _)); exact BK181.out)) : gb186 ≠ gb181))
          clear HO185
          clear BK180
          clear BK181
          clear HB
          have HO185 := n0_
          have BK180 := n1_
          have BK181 := n2_
          have HB := n3_
          have BK186 := n4_
          have GW186 := n5_
          have GE186 := n6_
          have NB180_186 := n7_
          have NB186_180 := n8_
          have NB181_186 := n9_
          have NB186_181 := n10_
          clear n0_ n1_ n2_ n3_ n4_ n5_ n6_ n7_ n8_ n9_ n10_
          clear hb hbox hg
          refine hK.out _ _ ⟨(blk_cell BK180.out 0).trans rfl, (blk_cell BK180.out 1).trans rfl, (blk_cell BK181.out 0).trans rfl, (blk_cell BK181.out 1).trans rfl⟩ (fun hHeld => ?_)
          clear hK K
          refine norm_ (a' := ?_) ?_ ?_
          rotate_left
          · show Act.put _ (some 8) _ = _
            simp only [Act.put, List.setIfInBounds_toArray, List.set_cons_zero, List.set_cons_succ, i64_w, i32_w]
            rfl
          refine one_ (i := 3) (N := some 9) #[true, true, true, true, false, false] rfl rfl (by kernel_rfl) (by decide) (fun K hK => ?_)
          refine box_step ?hg (N := 9) ?hd (cs := #[.int .u64 0, .int .u32 0]) (t := 27) ?hr ?_; (case hd => rfl); (case hg => rfl); (case hr => first | (go_simp; done) | (go_simp; rfl))
          intro gb187 hg w18 hbox hb
          have n0_ := Aside0.mk (Kd.R_below (by (with_reducible repeat (first | apply Kd.R_alloc | apply Kd.R_drewN | apply Kd.R_drew)); exact HO185.out) hb)
          have n1_ := Aside0.mk (blk_below (g := gb180) (o := .cells #[.int .u64 a1_0, .int .u32 a1_1] 27 (0, 0)) (by (with_reducible repeat (first | refine blk_drewN ?_ _ | refine blk_drew ?_ | refine blk_alloc ?_ _)); exact BK180.out) hb)
          have n2_ := Aside0.mk (blk_below (g := gb181) (o := .cells #[.int .u64 a2_0, .int .u32 a2_1] 27 (0, 0)) (by (with_reducible repeat (first | refine blk_drewN ?_ _ | refine blk_drew ?_ | refine blk_alloc ?_ _)); exact BK181.out) hb)
          have n3_ := Aside0.mk (blk_below (g := gb186) (o := .cells #[.int .u64 0, .int .u32 0] 27 (0, 0)) (by (with_reducible repeat (first | refine blk_drewN ?_ _ | refine blk_drew ?_ | refine blk_alloc ?_ _)); exact BK186.out) hb)
          have n4_ := Aside0.mk (below_step (by repeat (first | (with_reducible first | exact HB.out | apply below_alloc | apply pw_below_drewN | apply below_drew1 | refine below_set ?_ GE180.out | refine below_set ?_ GE181.out | refine below_set ?_ GE186.out) | exact HB.out)) hb)
          have n5_ := Aside0.mk (hbox)
          have n6_ := Aside0.mk ((by rw [hg]; exact (below_size (by repeat (first | (with_reducible first | exact HB.out | apply below_alloc | apply pw_below_drewN | apply below_drew1 | refine below_set ?_ GE180.out | refine below_set ?_ GE181.out | refine below_set ?_ GE186.out) | exact HB.out))) : w.heap.size ≤ gb187))
          have n7_ := Aside0.mk ((by rw [hg]; exact (below_size (by repeat (first | (with_reducible first | exact HB.out | apply below_alloc | apply pw_below_drewN | apply below_drew1 | refine below_set ?_ GE180.out | refine below_set ?_ GE181.out | refine below_set ?_ GE186.out) | exact HB.out))) : w.heap.size ≤ gb187))
          have n8_ := Aside0.mk ((by rw [hg]; exact Nat.ne_of_lt (blk_lt (g := gb180) (o := .cells #[.int .u64 a1_0, .int .u32 a1_1] 27 (0, 0)) (by (with_reducible repeat (first | refine blk_drewN ?_ _ | refine blk_drew ?_ | refine blk_alloc ?_ _)); exact BK180.out)) : gb180 ≠ gb187))
          have n9_ := Aside0.mk ((by rw [hg]; exact Nat.ne_of_gt (blk_lt (g := gb180) (o := .cells #[.int .u64 a1_0, .int .u32 a1_1] 27 (0, 0)) (by (with_reducible repeat (first | refine blk_drewN ?_ _ | refine blk_drew ?_ | refine blk_alloc ?_ _)); exact BK180.out)) : gb187 ≠ gb180))
          have n10_ := Aside0.mk ((by rw [hg]; exact Nat.ne_of_lt (blk_lt (g := gb181) (o := .cells #[.int .u64 a2_0, .int .u32 a2_1] 27 (0, 0)) (by (with_reducible repeat (first | refine blk_drewN ?_ _ | refine blk_drew ?_ | refine blk_alloc ?_ _)); exact BK181.out)) : gb181 ≠ gb187))
          have n11_ := Aside0.mk ((by rw [hg]; exact Nat.ne_of_gt (blk_lt (g := gb181) (o := .cells #[.int .u64 a2_0, .int .u32 a2_1] 27 (0, 0)) (by (with_reducible repeat (first | refine blk_drewN ?_ _ | refine blk_drew ?_ | refine blk_alloc ?_ _)); exact BK181.out)) : gb187 ≠ gb181))
          have n12_ := Aside0.mk ((by rw [hg]; exact Nat.ne_of_lt (blk_lt (g := gb186) (o := .cells #[.int .u64 0, .int .u32 0] 27 (0, 0)) (by (with_reducible repeat (first | refine blk_drewN ?_ _ | refine blk_drew ?_ | refine blk_alloc ?_ _)); exact BK186.out)) : gb186 ≠ gb187))
          have n13_ := Aside0.mk ((by rw [hg]; exact Nat.ne_of_gt (blk_lt (g := gb186) (o := .cells #[.int .u64 0, .int .u32 0] 27 (0, 0)) (by (with_reducible repeat (first | refine blk_drewN ?_ _ | refine blk_drew ?_ | refine blk_alloc ?_ _)); exact BK186.out)) : gb187 ≠ gb186))
          clear HO185
          clear BK180
          clear BK181
          clear BK186
          clear HB
          have HO185 := n0_
          have BK180 := n1_
          have BK181 := n2_
          have BK186 := n3_
          have HB := n4_
          have BK187 := n5_
          have GW187 := n6_
          have GE187 := n7_
          have NB180_187 := n8_
          have NB187_180 := n9_
          have NB181_187 := n10_
          have NB187_181 := n11_
          have NB186_187 := n12_
          have NB187_186 := n13_
          clear n0_ n1_ n2_ n3_ n4_ n5_ n6_ n7_ n8_ n9_ n10_ n11_ n12_ n13_
          clear hb hbox hg
          refine hK.out _ _ ⟨(blk_cell BK180.out 0).trans rfl, (blk_cell BK180.out 1).trans rfl, (blk_cell BK181.out 0).trans rfl, (blk_cell BK181.out 1).trans rfl⟩ (fun hHeld => ?_)
          clear hK K
          refine norm_ (a' := ?_) ?_ ?_
          rotate_left
          · show Act.put _ (some 9) _ = _
            simp only [Act.put, List.setIfInBounds_toArray, List.set_cons_zero, List.set_cons_succ, i64_w, i32_w]
            rfl
          exact norm_ (by simp only [putAll, Act.put, List.setIfInBounds_toArray, List.set_cons_zero, List.set_cons_succ]) (hCont (gb186, gb187) _ ⟨hHeld, (by (with_reducible repeat (first | apply Kd.R_alloc | apply Kd.R_drewN | apply Kd.R_drew)); exact HO185.out), (by (with_reducible repeat (first | refine blk_drewN ?_ _ | refine blk_drew ?_ | refine blk_alloc ?_ _)); exact BK180.out), (by (with_reducible repeat (first | refine blk_drewN ?_ _ | refine blk_drew ?_ | refine blk_alloc ?_ _)); exact BK181.out), (by (with_reducible repeat (first | refine blk_drewN ?_ _ | refine blk_drew ?_ | refine blk_alloc ?_ _)); exact BK186.out), (by (with_reducible repeat (first | refine blk_drewN ?_ _ | refine blk_drew ?_ | refine blk_alloc ?_ _)); exact BK187.out), GW186.out, GE186.out, NB180_186.out, NB186_180.out, NB181_186.out, NB186_181.out, NB187_186.out, NB186_187.out, GW187.out, GE187.out, NB180_187.out, NB187_180.out, NB181_187.out, NB187_181.out, (by repeat (first | (with_reducible first | exact HB.out | apply below_alloc | apply pw_below_drewN | apply below_drew1 | refine below_set ?_ GE180.out | refine below_set ?_ GE181.out | refine below_set ?_ GE186.out | refine below_set ?_ GE187.out) | exact HB.out))⟩)
        · skip
          refine box_step ?hg (N := 9) ?hd (cs := #[.int .u64 0, .int .u32 0]) (t := 27) ?hr ?_; (case hd => rfl); (case hg => rfl); (case hr => first | (go_simp; done) | (go_simp; rfl))
          intro gb187 hg w17 hbox hb
          have n0_ := Aside0.mk (Kd.R_below (by (with_reducible repeat (first | apply Kd.R_alloc | apply Kd.R_drewN | apply Kd.R_drew)); exact HO185.out) hb)
          have n1_ := Aside0.mk (blk_below (g := gb180) (o := .cells #[.int .u64 a1_0, .int .u32 a1_1] 27 (0, 0)) (by (with_reducible repeat (first | refine blk_drewN ?_ _ | refine blk_drew ?_ | refine blk_alloc ?_ _)); exact BK180.out) hb)
          have n2_ := Aside0.mk (blk_below (g := gb181) (o := .cells #[.int .u64 a2_0, .int .u32 a2_1] 27 (0, 0)) (by (with_reducible repeat (first | refine blk_drewN ?_ _ | refine blk_drew ?_ | refine blk_alloc ?_ _)); exact BK181.out) hb)
          have n3_ := Aside0.mk (below_step (by repeat (first | (with_reducible first | exact HB.out | apply below_alloc | apply pw_below_drewN | apply below_drew1 | refine below_set ?_ GE180.out | refine below_set ?_ GE181.out) | exact HB.out)) hb)
          have n4_ := Aside0.mk (hbox)
          have n5_ := Aside0.mk ((by rw [hg]; exact (below_size (by repeat (first | (with_reducible first | exact HB.out | apply below_alloc | apply pw_below_drewN | apply below_drew1 | refine below_set ?_ GE180.out | refine below_set ?_ GE181.out) | exact HB.out))) : w.heap.size ≤ gb187))
          have n6_ := Aside0.mk ((by rw [hg]; exact (below_size (by repeat (first | (with_reducible first | exact HB.out | apply below_alloc | apply pw_below_drewN | apply below_drew1 | refine below_set ?_ GE180.out | refine below_set ?_ GE181.out) | exact HB.out))) : w.heap.size ≤ gb187))
          have n7_ := Aside0.mk ((by rw [hg]; exact Nat.ne_of_lt (blk_lt (g := gb180) (o := .cells #[.int .u64 a1_0, .int .u32 a1_1] 27 (0, 0)) (by (with_reducible repeat (first | refine blk_drewN ?_ _ | refine blk_drew ?_ | refine blk_alloc ?_ _)); exact BK180.out)) : gb180 ≠ gb187))
          have n8_ := Aside0.mk ((by rw [hg]; exact Nat.ne_of_gt (blk_lt (g := gb180) (o := .cells #[.int .u64 a1_0, .int .u32 a1_1] 27 (0, 0)) (by (with_reducible repeat (first | refine blk_drewN ?_ _ | refine blk_drew ?_ | refine blk_alloc ?_ _)); exact BK180.out)) : gb187 ≠ gb180))
          have n9_ := Aside0.mk ((by rw [hg]; exact Nat.ne_of_lt (blk_lt (g := gb181) (o := .cells #[.int .u64 a2_0, .int .u32 a2_1] 27 (0, 0)) (by (with_reducible repeat (first | refine blk_drewN ?_ _ | refine blk_drew ?_ | refine blk_alloc ?_ _)); exact BK181.out)) : gb181 ≠ gb187))
          have n10_ := Aside0.mk ((by rw [hg]; exact Nat.ne_of_gt (blk_lt (g := gb181) (o := .cells #[.int .u64 a2_0, .int .u32 a2_1] 27 (0, 0)) (by (with_reducible repeat (first | refine blk_drewN ?_ _ | refine blk_drew ?_ | refine blk_alloc ?_ _)); exact BK181.out)) : gb187 ≠ gb181))
          clear HO185
          clear BK180
          clear BK181
          clear HB
          have HO185 := n0_
          have BK180 := n1_
          have BK181 := n2_
          have HB := n3_
          have BK187 := n4_
          have GW187 := n5_
          have GE187 := n6_
          have NB180_187 := n7_
          have NB187_180 := n8_
          have NB181_187 := n9_
          have NB187_181 := n10_
          clear n0_ n1_ n2_ n3_ n4_ n5_ n6_ n7_ n8_ n9_ n10_
          clear hb hbox hg
          refine hK.out _ _ ⟨(blk_cell BK180.out 0).trans rfl, (blk_cell BK180.out 1).trans rfl, (blk_cell BK181.out 0).trans rfl, (blk_cell BK181.out 1).trans rfl⟩ (fun hHeld => ?_)
          clear hK K
          refine norm_ (a' := ?_) ?_ ?_
          rotate_left
          · show Act.put _ (some 9) _ = _
            simp only [Act.put, List.setIfInBounds_toArray, List.set_cons_zero, List.set_cons_succ, i64_w, i32_w]
            rfl
          refine one_ (i := 2) (N := some 8) #[true, true, true, true, false, false] rfl rfl (by kernel_rfl) (by decide) (fun K hK => ?_)
          refine box_step ?hg (N := 8) ?hd (cs := #[.int .u64 0, .int .u32 0]) (t := 27) ?hr ?_; (case hd => rfl); (case hg => rfl); (case hr => first | (go_simp; done) | (go_simp; rfl))
          intro gb186 hg w18 hbox hb
          have n0_ := Aside0.mk (Kd.R_below (by (with_reducible repeat (first | apply Kd.R_alloc | apply Kd.R_drewN | apply Kd.R_drew)); exact HO185.out) hb)
          have n1_ := Aside0.mk (blk_below (g := gb180) (o := .cells #[.int .u64 a1_0, .int .u32 a1_1] 27 (0, 0)) (by (with_reducible repeat (first | refine blk_drewN ?_ _ | refine blk_drew ?_ | refine blk_alloc ?_ _)); exact BK180.out) hb)
          have n2_ := Aside0.mk (blk_below (g := gb181) (o := .cells #[.int .u64 a2_0, .int .u32 a2_1] 27 (0, 0)) (by (with_reducible repeat (first | refine blk_drewN ?_ _ | refine blk_drew ?_ | refine blk_alloc ?_ _)); exact BK181.out) hb)
          have n3_ := Aside0.mk (blk_below (g := gb187) (o := .cells #[.int .u64 0, .int .u32 0] 27 (0, 0)) (by (with_reducible repeat (first | refine blk_drewN ?_ _ | refine blk_drew ?_ | refine blk_alloc ?_ _)); exact BK187.out) hb)
          have n4_ := Aside0.mk (below_step (by repeat (first | (with_reducible first | exact HB.out | apply below_alloc | apply pw_below_drewN | apply below_drew1 | refine below_set ?_ GE180.out | refine below_set ?_ GE181.out | refine below_set ?_ GE187.out) | exact HB.out)) hb)
          have n5_ := Aside0.mk (hbox)
          have n6_ := Aside0.mk ((by rw [hg]; exact (below_size (by repeat (first | (with_reducible first | exact HB.out | apply below_alloc | apply pw_below_drewN | apply below_drew1 | refine below_set ?_ GE180.out | refine below_set ?_ GE181.out | refine below_set ?_ GE187.out) | exact HB.out))) : w.heap.size ≤ gb186))
          have n7_ := Aside0.mk ((by rw [hg]; exact (below_size (by repeat (first | (with_reducible first | exact HB.out | apply below_alloc | apply pw_below_drewN | apply below_drew1 | refine below_set ?_ GE180.out | refine below_set ?_ GE181.out | refine below_set ?_ GE187.out) | exact HB.out))) : w.heap.size ≤ gb186))
          have n8_ := Aside0.mk ((by rw [hg]; exact Nat.ne_of_lt (blk_lt (g := gb180) (o := .cells #[.int .u64 a1_0, .int .u32 a1_1] 27 (0, 0)) (by (with_reducible repeat (first | refine blk_drewN ?_ _ | refine blk_drew ?_ | refine blk_alloc ?_ _)); exact BK180.out)) : gb180 ≠ gb186))
          have n9_ := Aside0.mk ((by rw [hg]; exact Nat.ne_of_gt (blk_lt (g := gb180) (o := .cells #[.int .u64 a1_0, .int .u32 a1_1] 27 (0, 0)) (by (with_reducible repeat (first | refine blk_drewN ?_ _ | refine blk_drew ?_ | refine blk_alloc ?_ _)); exact BK180.out)) : gb186 ≠ gb180))
          have n10_ := Aside0.mk ((by rw [hg]; exact Nat.ne_of_lt (blk_lt (g := gb181) (o := .cells #[.int .u64 a2_0, .int .u32 a2_1] 27 (0, 0)) (by (with_reducible repeat (first | refine blk_drewN ?_ _ | refine blk_drew ?_ | refine blk_alloc ?_ _)); exact BK181.out)) : gb181 ≠ gb186))
          have n11_ := Aside0.mk ((by rw [hg]; exact Nat.ne_of_gt (blk_lt (g := gb181) (o := .cells #[.int .u64 a2_0, .int .u32 a2_1] 27 (0, 0)) (by (with_reducible repeat (first | refine blk_drewN ?_ _ | refine blk_drew ?_ | refine blk_alloc ?_ _)); exact BK181.out)) : gb186 ≠ gb181))
          have n12_ := Aside0.mk ((by rw [hg]; exact Nat.ne_of_lt (blk_lt (g := gb187) (o := .cells #[.int .u64 0, .int .u32 0] 27 (0, 0)) (by (with_reducible repeat (first | refine blk_drewN ?_ _ | refine blk_drew ?_ | refine blk_alloc ?_ _)); exact BK187.out)) : gb187 ≠ gb186))
          have n13_ := Aside0.mk ((by rw [hg]; exact Nat.ne_of_gt (blk_lt (g := gb187) (o := .cells #[.int .u64 0, .int .u32 0] 27 (0, 0)) (by (with_reducible repeat (first | refine blk_drewN ?_ _ | refine blk_drew ?_ | refine blk_alloc ?_ _)); exact BK187.out)) : gb186 ≠ gb187))
          clear HO185
          clear BK180
          clear BK181
          clear BK187
          clear HB
          have HO185 := n0_
          have BK180 := n1_
          have BK181 := n2_
          have BK187 := n3_
          have HB := n4_
          have BK186 := n5_
          have GW186 := n6_
          have GE186 := n7_
          have NB180_186 := n8_
          have NB186_180 := n9_
          have NB181_186 := n10_
          have NB186_181 := n11_
          have NB187_186 := n12_
          have NB186_187 := n13_
          clear n0_ n1_ n2_ n3_ n4_ n5_ n6_ n7_ n8_ n9_ n10_ n11_ n12_ n13_
          clear hb hbox hg
          refine hK.out _ _ ⟨(blk_cell BK180.out 0).trans rfl, (blk_cell BK180.out 1).trans rfl, (blk_cell BK181.out 0).trans rfl, (blk_cell BK181.out 1).trans rfl⟩ (fun hHeld => ?_)
          clear hK K
          refine norm_ (a' := ?_) ?_ ?_
          rotate_left
          · show Act.put _ (some 8) _ = _
            simp only [Act.put, List.setIfInBounds_toArray, List.set_cons_zero, List.set_cons_succ, i64_w, i32_w]
            rfl
          exact norm_ (by simp only [putAll, Act.put, List.setIfInBounds_toArray, List.set_cons_zero, List.set_cons_succ]) (hCont (gb186, gb187) _ ⟨hHeld, (by (with_reducible repeat (first | apply Kd.R_alloc | apply Kd.R_drewN | apply Kd.R_drew)); exact HO185.out), (by (with_reducible repeat (first | refine blk_drewN ?_ _ | refine blk_drew ?_ | refine blk_alloc ?_ _)); exact BK180.out), (by (with_reducible repeat (first | refine blk_drewN ?_ _ | refine blk_drew ?_ | refine blk_alloc ?_ _)); exact BK181.out), (by (with_reducible repeat (first | refine blk_drewN ?_ _ | refine blk_drew ?_ | refine blk_alloc ?_ _)); exact BK186.out), (by (with_reducible repeat (first | refine blk_drewN ?_ _ | refine blk_drew ?_ | refine blk_alloc ?_ _)); exact BK187.out), GW186.out, GE186.out, NB180_186.out, NB186_180.out, NB181_186.out, NB186_181.out, NB187_186.out, NB186_187.out, GW187.out, GE187.out, NB180_187.out, NB187_180.out, NB181_187.out, NB187_181.out, (by repeat (first | (with_reducible first | exact HB.out | apply below_alloc | apply pw_below_drewN | apply below_drew1 | refine below_set ?_ GE180.out | refine below_set ?_ GE181.out | refine below_set ?_ GE187.out | refine below_set ?_ GE186.out) | exact HB.out))⟩)
      rintro ⟨gb186, gb187⟩ w19 ⟨hS_, h0_, h1_, h2_, h3_, h4_, h5_, h6_, h7_, h8_, h9_, h10_, h11_, h12_, h13_, h14_, h15_, h16_, h17_, h18_, h19_⟩
      have n0_ : Aside0 (Kd.R k31 31 w19 w.heap.size (fun _ => True) v184 t183) := ⟨h0_⟩
      have n1_ : Aside0 (w19.heap[gb180]? = some (.cells #[.int .u64 a1_0, .int .u32 a1_1] 27 (0, 0))) := ⟨h1_⟩
      have n2_ : Aside0 (w19.heap[gb181]? = some (.cells #[.int .u64 a2_0, .int .u32 a2_1] 27 (0, 0))) := ⟨h2_⟩
      have n3_ : Aside0 (w19.heap[gb186]? = some (.cells #[.int .u64 0, .int .u32 0] 27 (0, 0))) := ⟨h3_⟩
      have n4_ : Aside0 (w19.heap[gb187]? = some (.cells #[.int .u64 0, .int .u32 0] 27 (0, 0))) := ⟨h4_⟩
      have n5_ : Aside0 (w.heap.size ≤ gb186) := ⟨h5_⟩
      have n6_ : Aside0 (w.heap.size ≤ gb186) := ⟨h6_⟩
      have n7_ : Aside0 (gb180 ≠ gb186) := ⟨h7_⟩
      have n8_ : Aside0 (gb186 ≠ gb180) := ⟨h8_⟩
      have n9_ : Aside0 (gb181 ≠ gb186) := ⟨h9_⟩
      have n10_ : Aside0 (gb186 ≠ gb181) := ⟨h10_⟩
      have n11_ : Aside0 (gb187 ≠ gb186) := ⟨h11_⟩
      have n12_ : Aside0 (gb186 ≠ gb187) := ⟨h12_⟩
      have n13_ : Aside0 (w.heap.size ≤ gb187) := ⟨h13_⟩
      have n14_ : Aside0 (w.heap.size ≤ gb187) := ⟨h14_⟩
      have n15_ : Aside0 (gb180 ≠ gb187) := ⟨h15_⟩
      have n16_ : Aside0 (gb187 ≠ gb180) := ⟨h16_⟩
      have n17_ : Aside0 (gb181 ≠ gb187) := ⟨h17_⟩
      have n18_ : Aside0 (gb187 ≠ gb181) := ⟨h18_⟩
      have n19_ : Aside0 (Below w.heap.size w w19) := ⟨h19_⟩
      clear HO185
      clear BK180
      clear BK181
      clear HB
      clear h0_ h1_ h2_ h3_ h4_ h5_ h6_ h7_ h8_ h9_ h10_ h11_ h12_ h13_ h14_ h15_ h16_ h17_ h18_ h19_
      have HO185 := n0_
      have BK180 := n1_
      have BK181 := n2_
      have BK186 := n3_
      have BK187 := n4_
      have GW186 := n5_
      have GE186 := n6_
      have NB180_186 := n7_
      have NB186_180 := n8_
      have NB181_186 := n9_
      have NB186_181 := n10_
      have NB187_186 := n11_
      have NB186_187 := n12_
      have GW187 := n13_
      have GE187 := n14_
      have NB180_187 := n15_
      have NB187_180 := n16_
      have NB181_187 := n17_
      have NB187_181 := n18_
      have HB := n19_
      clear n0_ n1_ n2_ n3_ n4_ n5_ n6_ n7_ n8_ n9_ n10_ n11_ n12_ n13_ n14_ n15_ n16_ n17_ n18_ n19_
      have hHeld : w19.cell? ⟨gb180, 0, none⟩ = some (.int .u64 a1_0) ∧ w19.cell? ⟨gb180, 1, none⟩ = some (.int .u32 a1_1) ∧ w19.cell? ⟨gb181, 0, none⟩ = some (.int .u64 a2_0) ∧ w19.cell? ⟨gb181, 1, none⟩ = some (.int .u32 a2_1) := hS_
      refine norm_ (a' := ?_) ?_ ?_
      rotate_left
      · simp only [putAll, Act.put, List.setIfInBounds_toArray, List.set_cons_zero, List.set_cons_succ]
        rfl
      refine one_ (i := 4) (N := none) #[true, true, true, true, true, false] rfl rfl (by kernel_rfl) (by decide) (fun K hK => ?_)
      have hs20 : w19.cell? ⟨gb186, 0, none⟩ = some (.int .u64 0) := (blk_cell BK186.out 0).trans rfl
      have hfs20 := blk_frozen BK186.out 0
      have hns20_0 := NB180_186.out
      have hns20_1 := NB181_186.out
      have hns20_3 := NB187_186.out
      have hms20_0 := NB186_180.out
      have hms20_1 := NB186_181.out
      have hms20_3 := NB186_187.out
      have hs21 : w19.cell? ⟨gb186, 1, none⟩ = some (.int .u32 0) := (blk_cell BK186.out 1).trans rfl
      have hfs21 := blk_frozen BK186.out 1
      have hns21_0 := NB180_186.out
      have hns21_1 := NB181_186.out
      have hns21_3 := NB187_186.out
      have hms21_0 := NB186_180.out
      have hms21_1 := NB186_181.out
      have hms21_3 := NB186_187.out
      refine skip_ (w1 := ?_) (by rfl) rfl ?_ ?_
      rotate_left
      · go_simp
        rfl
      refine hK.out _ _ ⟨((cell_far (p := ⟨gb186, _, none⟩) NB180_186.out _).trans (((cell_far (p := ⟨gb186, _, none⟩) NB180_186.out _).trans (hHeld.1)))), ((cell_far (p := ⟨gb186, _, none⟩) NB180_186.out _).trans (((cell_far (p := ⟨gb186, _, none⟩) NB180_186.out _).trans (hHeld.2.1)))), ((cell_far (p := ⟨gb186, _, none⟩) NB181_186.out _).trans (((cell_far (p := ⟨gb186, _, none⟩) NB181_186.out _).trans (hHeld.2.2.1)))), ((cell_far (p := ⟨gb186, _, none⟩) NB181_186.out _).trans (((cell_far (p := ⟨gb186, _, none⟩) NB181_186.out _).trans (hHeld.2.2.2))))⟩ (fun hHeld => ?_)
      clear hK K
      refine one_ (i := 5) (N := none) #[true, true, true, true, true, true] rfl rfl (by kernel_rfl) (by decide) (fun K hK => ?_)
      have hs22 : w19.cell? ⟨gb187, 0, none⟩ = some (.int .u64 0) := (blk_cell BK187.out 0).trans rfl
      have hfs22 := blk_frozen BK187.out 0
      have hns22_0 := NB180_187.out
      have hns22_1 := NB181_187.out
      have hns22_2 := NB186_187.out
      have hms22_0 := NB187_180.out
      have hms22_1 := NB187_181.out
      have hms22_2 := NB187_186.out
      have hs23 : w19.cell? ⟨gb187, 1, none⟩ = some (.int .u32 0) := (blk_cell BK187.out 1).trans rfl
      have hfs23 := blk_frozen BK187.out 1
      have hns23_0 := NB180_187.out
      have hns23_1 := NB181_187.out
      have hns23_2 := NB186_187.out
      have hms23_0 := NB187_180.out
      have hms23_1 := NB187_181.out
      have hms23_2 := NB187_186.out
      refine skip_ (w1 := ?_) (by rfl) rfl ?_ ?_
      rotate_left
      · go_simp
        rfl
      refine hK.out _ _ ⟨((cell_far (p := ⟨gb187, _, none⟩) NB180_187.out _).trans (((cell_far (p := ⟨gb187, _, none⟩) NB180_187.out _).trans (hHeld.1)))), ((cell_far (p := ⟨gb187, _, none⟩) NB180_187.out _).trans (((cell_far (p := ⟨gb187, _, none⟩) NB180_187.out _).trans (hHeld.2.1)))), ((cell_far (p := ⟨gb187, _, none⟩) NB181_187.out _).trans (((cell_far (p := ⟨gb187, _, none⟩) NB181_187.out _).trans (hHeld.2.2.1)))), ((cell_far (p := ⟨gb187, _, none⟩) NB181_187.out _).trans (((cell_far (p := ⟨gb187, _, none⟩) NB181_187.out _).trans (hHeld.2.2.2))))⟩ (fun hHeld => ?_)
      clear hK K
      refine done_ (by kernel_rfl) ?_
      go_upto_region 7 with (fail)
      go_cut [43] (fun v43 wc => ∃ (kq : Nat) (x43_10 : Bool), v43 = .bool x43_10 ∧ Aside0 (dovecotelaw07_ChainPrunes.j0 kq t183 x43_10 a1_0 a1_1 a2_0 a2_1 a1_0 a1_1 a2_0 a2_1 = some r) ∧ Aside0 (kq ≤ k) ∧ Aside0 (Kd.R k31 31 wc w.heap.size (fun _ => True) v184 t183) ∧ Aside0 (wc.heap[gb180]? = some (.cells #[.int .u64 a1_0, .int .u32 a1_1] 27 (0, 0))) ∧ Aside0 (wc.heap[gb181]? = some (.cells #[.int .u64 a2_0, .int .u32 a2_1] 27 (0, 0))) ∧ Aside0 (wc.heap[gb186]? = some (.cells #[.int .u64 a1_0, .int .u32 a1_1] 27 (0, 0))) ∧ Aside0 (wc.heap[gb187]? = some (.cells #[.int .u64 a2_0, .int .u32 a2_1] 27 (0, 0))) ∧ Aside0 (Below w.heap.size w wc))
      case first =>
        have H := HC11.out
        clear HC11
        by_cases c24 : a2_0 < a1_0
        · rw [if_pos c24] at H
          have c24b0 : decide (a2_0 < a1_0) = true := decide_eq_true c24
          clear c24
          (first | rw [c24b0] | (simp only [i64_w, i32_w]; rw [c24b0]) | skip)
          have H' := Aside0.mk H
          clear H
          have hnb25 := NB181_180.out
          have hnc25 := NB180_181.out
          have hnb26 := NB181_186.out
          have hnc26 := NB186_181.out
          have hnb27 := NB181_187.out
          have hnc27 := NB187_181.out
          have hcz28_0 : w19.cell? ⟨gb181, 0, none⟩ = some (.int .u64 a2_0) := (blk_cell BK181.out 0).trans rfl
          have hcz28_1 : w19.cell? ⟨gb181, 1, none⟩ = some (.int .u32 a2_1) := (blk_cell BK181.out 1).trans rfl
          have hfz28_0 := blk_frozen BK181.out 0
          have hfz28_1 := blk_frozen BK181.out 1
          have hnb29 := NB180_186.out
          have hnc29 := NB186_180.out
          have hnb30 := NB180_187.out
          have hnc30 := NB187_180.out
          have hcz31_0 : w19.cell? ⟨gb180, 0, none⟩ = some (.int .u64 a1_0) := (blk_cell BK180.out 0).trans rfl
          have hcz31_1 : w19.cell? ⟨gb180, 1, none⟩ = some (.int .u32 a1_1) := (blk_cell BK180.out 1).trans rfl
          have hfz31_0 := blk_frozen BK180.out 0
          have hfz31_1 := blk_frozen BK180.out 1
          go_wp2
          go_meet
          case rel => exact ⟨_, (true), (by first | rfl | (simp; done) | (simp [*]; done)), H', ⟨by first | omega | exact Nat.le_refl _⟩, ⟨by (with_reducible repeat (first | apply Kd.R_alloc | apply Kd.R_drewN | apply Kd.R_drew)); exact Kd.R_mono (Kd.R_far (p := ⟨gb187, 1, none⟩) (Kd.R_far (p := ⟨gb187, 0, none⟩) (Kd.R_far (p := ⟨gb186, 1, none⟩) (Kd.R_far (p := ⟨gb186, 0, none⟩) (Kd.R_types (Kd.R_types HO185.out BK186.out (by decide)) BK187.out (by decide)) (fun _ hk => hk.1.2) (.int .u64 a1_0)) (fun _ hk => hk.1.2) (.int .u32 a1_1)) (fun _ hk => hk.2) (.int .u64 a2_0)) (fun _ hk => hk.2) (.int .u32 a2_1)) (fun _ hk => trivial)⟩, ⟨by (with_reducible repeat (first | refine blk_drewN ?_ _ | refine blk_drew ?_ | refine blk_alloc ?_ _)); refine blk_far ?_ NB180_187.out _; (with_reducible repeat (first | refine blk_drewN ?_ _ | refine blk_drew ?_ | refine blk_alloc ?_ _)); refine blk_far ?_ NB180_187.out _; (with_reducible repeat (first | refine blk_drewN ?_ _ | refine blk_drew ?_ | refine blk_alloc ?_ _)); refine blk_far ?_ NB180_186.out _; (with_reducible repeat (first | refine blk_drewN ?_ _ | refine blk_drew ?_ | refine blk_alloc ?_ _)); refine blk_far ?_ NB180_186.out _; (with_reducible repeat (first | refine blk_drewN ?_ _ | refine blk_drew ?_ | refine blk_alloc ?_ _)); exact BK180.out⟩, ⟨by (with_reducible repeat (first | refine blk_drewN ?_ _ | refine blk_drew ?_ | refine blk_alloc ?_ _)); refine blk_far ?_ NB181_187.out _; (with_reducible repeat (first | refine blk_drewN ?_ _ | refine blk_drew ?_ | refine blk_alloc ?_ _)); refine blk_far ?_ NB181_187.out _; (with_reducible repeat (first | refine blk_drewN ?_ _ | refine blk_drew ?_ | refine blk_alloc ?_ _)); refine blk_far ?_ NB181_186.out _; (with_reducible repeat (first | refine blk_drewN ?_ _ | refine blk_drew ?_ | refine blk_alloc ?_ _)); refine blk_far ?_ NB181_186.out _; (with_reducible repeat (first | refine blk_drewN ?_ _ | refine blk_drew ?_ | refine blk_alloc ?_ _)); exact BK181.out⟩, ⟨by (with_reducible repeat (first | refine blk_drewN ?_ _ | refine blk_drew ?_ | refine blk_alloc ?_ _)); refine blk_far ?_ NB186_187.out _; (with_reducible repeat (first | refine blk_drewN ?_ _ | refine blk_drew ?_ | refine blk_alloc ?_ _)); refine blk_far ?_ NB186_187.out _; (with_reducible repeat (first | refine blk_drewN ?_ _ | refine blk_drew ?_ | refine blk_alloc ?_ _)); refine blk_put (cs := #[.int .u64 a1_0, .int .u32 0]) ?_ 1 _ rfl; (with_reducible repeat (first | refine blk_drewN ?_ _ | refine blk_drew ?_ | refine blk_alloc ?_ _)); refine blk_put (cs := #[.int .u64 0, .int .u32 0]) ?_ 0 _ rfl; (with_reducible repeat (first | refine blk_drewN ?_ _ | refine blk_drew ?_ | refine blk_alloc ?_ _)); exact BK186.out⟩, ⟨by (with_reducible repeat (first | refine blk_drewN ?_ _ | refine blk_drew ?_ | refine blk_alloc ?_ _)); refine blk_put (cs := #[.int .u64 a2_0, .int .u32 0]) ?_ 1 _ rfl; (with_reducible repeat (first | refine blk_drewN ?_ _ | refine blk_drew ?_ | refine blk_alloc ?_ _)); refine blk_put (cs := #[.int .u64 0, .int .u32 0]) ?_ 0 _ rfl; (with_reducible repeat (first | refine blk_drewN ?_ _ | refine blk_drew ?_ | refine blk_alloc ?_ _)); refine blk_far ?_ NB187_186.out _; (with_reducible repeat (first | refine blk_drewN ?_ _ | refine blk_drew ?_ | refine blk_alloc ?_ _)); refine blk_far ?_ NB187_186.out _; (with_reducible repeat (first | refine blk_drewN ?_ _ | refine blk_drew ?_ | refine blk_alloc ?_ _)); exact BK187.out⟩, ⟨by repeat (first | (with_reducible first | exact HB.out | apply below_alloc | apply pw_below_drewN | apply below_drew1 | refine below_set ?_ GE180.out | refine below_set ?_ GE181.out | refine below_set ?_ GE186.out | refine below_set ?_ GE187.out) | exact HB.out)⟩⟩
        · rw [if_neg c24] at H
          have c24b0 : decide (a2_0 < a1_0) = false := decide_eq_false c24
          clear c24
          (first | rw [c24b0] | (simp only [i64_w, i32_w]; rw [c24b0]) | skip)
          by_cases c32 : a2_0 = a1_0
          · rw [if_pos c32] at H
            have c32b0 : (a2_0 == a1_0) = true := beq_iff_eq.mpr c32
            have c32b1 : (a2_0 != a1_0) = false := bne_eq_false_iff_eq.mpr c32
            clear c32
            have H' := Aside0.mk H
            clear H
            have hnb33 := NB181_180.out
            have hnc33 := NB180_181.out
            have hnb34 := NB181_186.out
            have hnc34 := NB186_181.out
            have hnb35 := NB181_187.out
            have hnc35 := NB187_181.out
            have hcz36_0 : w19.cell? ⟨gb181, 0, none⟩ = some (.int .u64 a2_0) := (blk_cell BK181.out 0).trans rfl
            have hcz36_1 : w19.cell? ⟨gb181, 1, none⟩ = some (.int .u32 a2_1) := (blk_cell BK181.out 1).trans rfl
            have hfz36_0 := blk_frozen BK181.out 0
            have hfz36_1 := blk_frozen BK181.out 1
            have hnb37 := NB180_186.out
            have hnc37 := NB186_180.out
            have hnb38 := NB180_187.out
            have hnc38 := NB187_180.out
            have hcz39_0 : w19.cell? ⟨gb180, 0, none⟩ = some (.int .u64 a1_0) := (blk_cell BK180.out 0).trans rfl
            have hcz39_1 : w19.cell? ⟨gb180, 1, none⟩ = some (.int .u32 a1_1) := (blk_cell BK180.out 1).trans rfl
            have hfz39_0 := blk_frozen BK180.out 0
            have hfz39_1 := blk_frozen BK180.out 1
            go_wp2
            go_meet
            case rel => exact ⟨_, (decide (a2_1 < a1_1)), (by first | rfl | (simp; done) | (simp [*]; done)), H', ⟨by first | omega | exact Nat.le_refl _⟩, ⟨by (with_reducible repeat (first | apply Kd.R_alloc | apply Kd.R_drewN | apply Kd.R_drew)); exact Kd.R_mono (Kd.R_far (p := ⟨gb187, 1, none⟩) (Kd.R_far (p := ⟨gb187, 0, none⟩) (Kd.R_far (p := ⟨gb186, 1, none⟩) (Kd.R_far (p := ⟨gb186, 0, none⟩) (Kd.R_types (Kd.R_types HO185.out BK186.out (by decide)) BK187.out (by decide)) (fun _ hk => hk.1.2) (.int .u64 a1_0)) (fun _ hk => hk.1.2) (.int .u32 a1_1)) (fun _ hk => hk.2) (.int .u64 a2_0)) (fun _ hk => hk.2) (.int .u32 a2_1)) (fun _ hk => trivial)⟩, ⟨by (with_reducible repeat (first | refine blk_drewN ?_ _ | refine blk_drew ?_ | refine blk_alloc ?_ _)); refine blk_far ?_ NB180_187.out _; (with_reducible repeat (first | refine blk_drewN ?_ _ | refine blk_drew ?_ | refine blk_alloc ?_ _)); refine blk_far ?_ NB180_187.out _; (with_reducible repeat (first | refine blk_drewN ?_ _ | refine blk_drew ?_ | refine blk_alloc ?_ _)); refine blk_far ?_ NB180_186.out _; (with_reducible repeat (first | refine blk_drewN ?_ _ | refine blk_drew ?_ | refine blk_alloc ?_ _)); refine blk_far ?_ NB180_186.out _; (with_reducible repeat (first | refine blk_drewN ?_ _ | refine blk_drew ?_ | refine blk_alloc ?_ _)); exact BK180.out⟩, ⟨by (with_reducible repeat (first | refine blk_drewN ?_ _ | refine blk_drew ?_ | refine blk_alloc ?_ _)); refine blk_far ?_ NB181_187.out _; (with_reducible repeat (first | refine blk_drewN ?_ _ | refine blk_drew ?_ | refine blk_alloc ?_ _)); refine blk_far ?_ NB181_187.out _; (with_reducible repeat (first | refine blk_drewN ?_ _ | refine blk_drew ?_ | refine blk_alloc ?_ _)); refine blk_far ?_ NB181_186.out _; (with_reducible repeat (first | refine blk_drewN ?_ _ | refine blk_drew ?_ | refine blk_alloc ?_ _)); refine blk_far ?_ NB181_186.out _; (with_reducible repeat (first | refine blk_drewN ?_ _ | refine blk_drew ?_ | refine blk_alloc ?_ _)); exact BK181.out⟩, ⟨by (with_reducible repeat (first | refine blk_drewN ?_ _ | refine blk_drew ?_ | refine blk_alloc ?_ _)); refine blk_far ?_ NB186_187.out _; (with_reducible repeat (first | refine blk_drewN ?_ _ | refine blk_drew ?_ | refine blk_alloc ?_ _)); refine blk_far ?_ NB186_187.out _; (with_reducible repeat (first | refine blk_drewN ?_ _ | refine blk_drew ?_ | refine blk_alloc ?_ _)); refine blk_put (cs := #[.int .u64 a1_0, .int .u32 0]) ?_ 1 _ rfl; (with_reducible repeat (first | refine blk_drewN ?_ _ | refine blk_drew ?_ | refine blk_alloc ?_ _)); refine blk_put (cs := #[.int .u64 0, .int .u32 0]) ?_ 0 _ rfl; (with_reducible repeat (first | refine blk_drewN ?_ _ | refine blk_drew ?_ | refine blk_alloc ?_ _)); exact BK186.out⟩, ⟨by (with_reducible repeat (first | refine blk_drewN ?_ _ | refine blk_drew ?_ | refine blk_alloc ?_ _)); refine blk_put (cs := #[.int .u64 a2_0, .int .u32 0]) ?_ 1 _ rfl; (with_reducible repeat (first | refine blk_drewN ?_ _ | refine blk_drew ?_ | refine blk_alloc ?_ _)); refine blk_put (cs := #[.int .u64 0, .int .u32 0]) ?_ 0 _ rfl; (with_reducible repeat (first | refine blk_drewN ?_ _ | refine blk_drew ?_ | refine blk_alloc ?_ _)); refine blk_far ?_ NB187_186.out _; (with_reducible repeat (first | refine blk_drewN ?_ _ | refine blk_drew ?_ | refine blk_alloc ?_ _)); refine blk_far ?_ NB187_186.out _; (with_reducible repeat (first | refine blk_drewN ?_ _ | refine blk_drew ?_ | refine blk_alloc ?_ _)); exact BK187.out⟩, ⟨by repeat (first | (with_reducible first | exact HB.out | apply below_alloc | apply pw_below_drewN | apply below_drew1 | refine below_set ?_ GE180.out | refine below_set ?_ GE181.out | refine below_set ?_ GE186.out | refine below_set ?_ GE187.out) | exact HB.out)⟩⟩
          · rw [if_neg c32] at H
            have c32b0 : (a2_0 == a1_0) = false := beq_eq_false_iff_ne.mpr c32
            have c32b1 : (a2_0 != a1_0) = true := bne_iff_ne.mpr c32
            have H' := Aside0.mk H
            clear H
            have hnb40 := NB181_180.out
            have hnc40 := NB180_181.out
            have hnb41 := NB181_186.out
            have hnc41 := NB186_181.out
            have hnb42 := NB181_187.out
            have hnc42 := NB187_181.out
            have hcz43_0 : w19.cell? ⟨gb181, 0, none⟩ = some (.int .u64 a2_0) := (blk_cell BK181.out 0).trans rfl
            have hcz43_1 : w19.cell? ⟨gb181, 1, none⟩ = some (.int .u32 a2_1) := (blk_cell BK181.out 1).trans rfl
            have hfz43_0 := blk_frozen BK181.out 0
            have hfz43_1 := blk_frozen BK181.out 1
            have hnb44 := NB180_186.out
            have hnc44 := NB186_180.out
            have hnb45 := NB180_187.out
            have hnc45 := NB187_180.out
            have hcz46_0 : w19.cell? ⟨gb180, 0, none⟩ = some (.int .u64 a1_0) := (blk_cell BK180.out 0).trans rfl
            have hcz46_1 : w19.cell? ⟨gb180, 1, none⟩ = some (.int .u32 a1_1) := (blk_cell BK180.out 1).trans rfl
            have hfz46_0 := blk_frozen BK180.out 0
            have hfz46_1 := blk_frozen BK180.out 1
            go_wp2
            go_meet
            case rel => exact ⟨_, (false), (by first | rfl | (simp; done) | (simp [*]; done)), H', ⟨by first | omega | exact Nat.le_refl _⟩, ⟨by (with_reducible repeat (first | apply Kd.R_alloc | apply Kd.R_drewN | apply Kd.R_drew)); exact Kd.R_mono (Kd.R_far (p := ⟨gb187, 1, none⟩) (Kd.R_far (p := ⟨gb187, 0, none⟩) (Kd.R_far (p := ⟨gb186, 1, none⟩) (Kd.R_far (p := ⟨gb186, 0, none⟩) (Kd.R_types (Kd.R_types HO185.out BK186.out (by decide)) BK187.out (by decide)) (fun _ hk => hk.1.2) (.int .u64 a1_0)) (fun _ hk => hk.1.2) (.int .u32 a1_1)) (fun _ hk => hk.2) (.int .u64 a2_0)) (fun _ hk => hk.2) (.int .u32 a2_1)) (fun _ hk => trivial)⟩, ⟨by (with_reducible repeat (first | refine blk_drewN ?_ _ | refine blk_drew ?_ | refine blk_alloc ?_ _)); refine blk_far ?_ NB180_187.out _; (with_reducible repeat (first | refine blk_drewN ?_ _ | refine blk_drew ?_ | refine blk_alloc ?_ _)); refine blk_far ?_ NB180_187.out _; (with_reducible repeat (first | refine blk_drewN ?_ _ | refine blk_drew ?_ | refine blk_alloc ?_ _)); refine blk_far ?_ NB180_186.out _; (with_reducible repeat (first | refine blk_drewN ?_ _ | refine blk_drew ?_ | refine blk_alloc ?_ _)); refine blk_far ?_ NB180_186.out _; (with_reducible repeat (first | refine blk_drewN ?_ _ | refine blk_drew ?_ | refine blk_alloc ?_ _)); exact BK180.out⟩, ⟨by (with_reducible repeat (first | refine blk_drewN ?_ _ | refine blk_drew ?_ | refine blk_alloc ?_ _)); refine blk_far ?_ NB181_187.out _; (with_reducible repeat (first | refine blk_drewN ?_ _ | refine blk_drew ?_ | refine blk_alloc ?_ _)); refine blk_far ?_ NB181_187.out _; (with_reducible repeat (first | refine blk_drewN ?_ _ | refine blk_drew ?_ | refine blk_alloc ?_ _)); refine blk_far ?_ NB181_186.out _; (with_reducible repeat (first | refine blk_drewN ?_ _ | refine blk_drew ?_ | refine blk_alloc ?_ _)); refine blk_far ?_ NB181_186.out _; (with_reducible repeat (first | refine blk_drewN ?_ _ | refine blk_drew ?_ | refine blk_alloc ?_ _)); exact BK181.out⟩, ⟨by (with_reducible repeat (first | refine blk_drewN ?_ _ | refine blk_drew ?_ | refine blk_alloc ?_ _)); refine blk_far ?_ NB186_187.out _; (with_reducible repeat (first | refine blk_drewN ?_ _ | refine blk_drew ?_ | refine blk_alloc ?_ _)); refine blk_far ?_ NB186_187.out _; (with_reducible repeat (first | refine blk_drewN ?_ _ | refine blk_drew ?_ | refine blk_alloc ?_ _)); refine blk_put (cs := #[.int .u64 a1_0, .int .u32 0]) ?_ 1 _ rfl; (with_reducible repeat (first | refine blk_drewN ?_ _ | refine blk_drew ?_ | refine blk_alloc ?_ _)); refine blk_put (cs := #[.int .u64 0, .int .u32 0]) ?_ 0 _ rfl; (with_reducible repeat (first | refine blk_drewN ?_ _ | refine blk_drew ?_ | refine blk_alloc ?_ _)); exact BK186.out⟩, ⟨by (with_reducible repeat (first | refine blk_drewN ?_ _ | refine blk_drew ?_ | refine blk_alloc ?_ _)); refine blk_put (cs := #[.int .u64 a2_0, .int .u32 0]) ?_ 1 _ rfl; (with_reducible repeat (first | refine blk_drewN ?_ _ | refine blk_drew ?_ | refine blk_alloc ?_ _)); refine blk_put (cs := #[.int .u64 0, .int .u32 0]) ?_ 0 _ rfl; (with_reducible repeat (first | refine blk_drewN ?_ _ | refine blk_drew ?_ | refine blk_alloc ?_ _)); refine blk_far ?_ NB187_186.out _; (with_reducible repeat (first | refine blk_drewN ?_ _ | refine blk_drew ?_ | refine blk_alloc ?_ _)); refine blk_far ?_ NB187_186.out _; (with_reducible repeat (first | refine blk_drewN ?_ _ | refine blk_drew ?_ | refine blk_alloc ?_ _)); exact BK187.out⟩, ⟨by repeat (first | (with_reducible first | exact HB.out | apply below_alloc | apply pw_below_drewN | apply below_drew1 | refine below_set ?_ GE180.out | refine below_set ?_ GE181.out | refine below_set ?_ GE186.out | refine below_set ?_ GE187.out) | exact HB.out)⟩⟩
      case rest =>
        clear HC11
        try clear c1
        try clear c2
        try clear p2
        try clear c3
        try clear c4
        try clear c5
        try clear c6
        try clear c6b0
        try clear c6b1
        try clear c13
        try clear c15
        try clear c24
        try clear c24b0
        try clear c25
        try clear c26
        try clear c27
        try clear c29
        try clear c30
        try clear c32
        try clear c32b0
        try clear c32b1
        try clear c33
        try clear c34
        try clear c35
        try clear c37
        try clear c38
        try clear c40
        try clear c41
        try clear c42
        try clear c44
        try clear c45
        try clear hcz28_0
        try clear hcz28_1
        try clear hcz31_0
        try clear hcz31_1
        try clear hcz36_0
        try clear hcz36_1
        try clear hcz39_0
        try clear hcz39_1
        try clear hcz43_0
        try clear hcz43_1
        try clear hcz46_0
        try clear hcz46_1
        try clear hfz28_0
        try clear hfz28_1
        try clear hfz31_0
        try clear hfz31_1
        try clear hfz36_0
        try clear hfz36_1
        try clear hfz39_0
        try clear hfz39_1
        try clear hfz43_0
        try clear hfz43_1
        try clear hfz46_0
        try clear hfz46_1
        obtain ⟨kq, x43_10, rfl, HA, HJ10, HO_7, BK180, BK181, BK186, BK187, HB⟩ := hcut
        cases kq with
        | zero => exact absurd HA.out (by simp [dovecotelaw07_ChainPrunes.j0])
        | succ kj10 =>
          have H := HA.out
          clear HA
          simp only [dovecotelaw07_ChainPrunes.j0] at H
          have HC47 := Aside0.mk H
          clear H
          go_upto_if 43 with (fail)
          go_cut [] (fun wc => ∃ (kq : Nat) (x187000_46 : Int) (x187001_46 : Int) (x188000_46 : Int) (x188001_46 : Int), Aside0 (dovecotelaw07_ChainPrunes.j1 kq t183 x187000_46 x187001_46 x188000_46 x188001_46 = some r) ∧ Aside0 (kq ≤ kj10) ∧ Aside0 (Kd.R k31 31 wc w.heap.size (fun _ => True) v184 t183) ∧ Aside0 (wc.heap[gb180]? = some (.cells #[.int .u64 a1_0, .int .u32 a1_1] 27 (0, 0))) ∧ Aside0 (wc.heap[gb181]? = some (.cells #[.int .u64 a2_0, .int .u32 a2_1] 27 (0, 0))) ∧ Aside0 (wc.heap[gb186]? = some (.cells #[.int .u64 x187000_46, .int .u32 x187001_46] 27 (0, 0))) ∧ Aside0 (wc.heap[gb187]? = some (.cells #[.int .u64 x188000_46, .int .u32 x188001_46] 27 (0, 0))) ∧ Aside0 (Below w.heap.size w wc))
          case first =>
            have H := HC47.out
            clear HC47
            by_cases c48 : x43_10 = true
            · subst c48
              have H1 : (dovecotelaw07_ChainPrunes.j1 kj10 t183 a2_0 a2_1 a1_0 a1_1) = some r := by rw [if_pos rfl] at H; exact H
              clear H
              have H := H1
              clear H1
              have H' := Aside0.mk H
              clear H
              try go_wp2
              have n0_ := Aside0.mk (Kd.R_drew HO_7.out)
              have n1_ := Aside0.mk (blk_drew BK180.out)
              have n2_ := Aside0.mk (blk_drew BK181.out)
              have n3_ := Aside0.mk (blk_drew BK186.out)
              have n4_ := Aside0.mk (blk_drew BK187.out)
              have n5_ := Aside0.mk (below_drew1 HB.out)
              clear HO_7
              clear BK180
              clear BK181
              clear BK186
              clear BK187
              clear HB
              have HO_7 := n0_
              have BK180 := n1_
              have BK181 := n2_
              have BK186 := n3_
              have BK187 := n4_
              have HB := n5_
              clear n0_ n1_ n2_ n3_ n4_ n5_
              refine start_ (n := 4) (S := fun w' => w'.cell? ⟨gb181, 0, none⟩ = some (.int .u64 a2_0) ∧ w'.cell? ⟨gb181, 1, none⟩ = some (.int .u32 a2_1) ∧ w'.cell? ⟨gb180, 0, none⟩ = some (.int .u64 a1_0) ∧ w'.cell? ⟨gb180, 1, none⟩ = some (.int .u32 a1_1)) (ds := []) #[false, false, false, false] (by kernel_rfl) rfl rfl ⟨(blk_cell BK181.out 0).trans rfl, (blk_cell BK181.out 1).trans rfl, (blk_cell BK180.out 0).trans rfl, (blk_cell BK180.out 1).trans rfl⟩ (fun hHeld => ?_)
              generalize wc.drew = w49 at HO_7 BK180 BK181 BK186 BK187 HB hHeld ⊢
              refine take_ (i := 0) (N := some 44) (v := ?_) (a' := ?_) #[true, false, false, false] rfl rfl (by kernel_rfl) (fun _ _ _ h => h) (Or.inl ⟨by rfl, ?_⟩) hHeld ?_ ?_
              rotate_left
              · rintro w' ⟨s0, s1, s2, s3⟩
                go_simp
                with_reducible rfl
              rotate_left
              · simp only [Act.put, List.setIfInBounds_toArray, List.set_cons_zero, List.set_cons_succ, i64_w, i32_w]
                rfl
              refine take_ (i := 1) (N := some 45) (v := ?_) (a' := ?_) #[true, true, false, false] rfl rfl (by kernel_rfl) (fun _ _ _ h => h) (Or.inl ⟨by rfl, ?_⟩) hHeld ?_ ?_
              rotate_left
              · rintro w' ⟨s0, s1, s2, s3⟩
                go_simp
                with_reducible rfl
              rotate_left
              · simp only [Act.put, List.setIfInBounds_toArray, List.set_cons_zero, List.set_cons_succ, i64_w, i32_w]
                rfl
              refine one_ (i := 2) (N := none) #[true, true, true, false] rfl rfl (by kernel_rfl) (by decide) (fun K hK => ?_)
              have hs50 : w49.cell? ⟨gb186, 0, none⟩ = some (.int .u64 a1_0) := (blk_cell BK186.out 0).trans rfl
              have hfs50 := blk_frozen BK186.out 0
              have hns50_0 := NB180_186.out
              have hns50_1 := NB181_186.out
              have hns50_3 := NB187_186.out
              have hms50_0 := NB186_180.out
              have hms50_1 := NB186_181.out
              have hms50_3 := NB186_187.out
              have hs51 : w49.cell? ⟨gb186, 1, none⟩ = some (.int .u32 a1_1) := (blk_cell BK186.out 1).trans rfl
              have hfs51 := blk_frozen BK186.out 1
              have hns51_0 := NB180_186.out
              have hns51_1 := NB181_186.out
              have hns51_3 := NB187_186.out
              have hms51_0 := NB186_180.out
              have hms51_1 := NB186_181.out
              have hms51_3 := NB186_187.out
              refine skip_ (w1 := ?_) (by rfl) rfl ?_ ?_
              rotate_left
              · go_simp
                rfl
              refine hK.out _ _ ⟨((cell_far (p := ⟨gb186, _, none⟩) NB181_186.out _).trans (((cell_far (p := ⟨gb186, _, none⟩) NB181_186.out _).trans (hHeld.1)))), ((cell_far (p := ⟨gb186, _, none⟩) NB181_186.out _).trans (((cell_far (p := ⟨gb186, _, none⟩) NB181_186.out _).trans (hHeld.2.1)))), ((cell_far (p := ⟨gb186, _, none⟩) NB180_186.out _).trans (((cell_far (p := ⟨gb186, _, none⟩) NB180_186.out _).trans (hHeld.2.2.1)))), ((cell_far (p := ⟨gb186, _, none⟩) NB180_186.out _).trans (((cell_far (p := ⟨gb186, _, none⟩) NB180_186.out _).trans (hHeld.2.2.2))))⟩ (fun hHeld => ?_)
              clear hK K
              refine one_ (i := 3) (N := none) #[true, true, true, true] rfl rfl (by kernel_rfl) (by decide) (fun K hK => ?_)
              have hs52 : w49.cell? ⟨gb187, 0, none⟩ = some (.int .u64 a2_0) := (blk_cell BK187.out 0).trans rfl
              have hfs52 := blk_frozen BK187.out 0
              have hns52_0 := NB180_187.out
              have hns52_1 := NB181_187.out
              have hns52_2 := NB186_187.out
              have hms52_0 := NB187_180.out
              have hms52_1 := NB187_181.out
              have hms52_2 := NB187_186.out
              have hs53 : w49.cell? ⟨gb187, 1, none⟩ = some (.int .u32 a2_1) := (blk_cell BK187.out 1).trans rfl
              have hfs53 := blk_frozen BK187.out 1
              have hns53_0 := NB180_187.out
              have hns53_1 := NB181_187.out
              have hns53_2 := NB186_187.out
              have hms53_0 := NB187_180.out
              have hms53_1 := NB187_181.out
              have hms53_2 := NB187_186.out
              refine skip_ (w1 := ?_) (by rfl) rfl ?_ ?_
              rotate_left
              · go_simp
                rfl
              refine hK.out _ _ ⟨((cell_far (p := ⟨gb187, _, none⟩) NB181_187.out _).trans (((cell_far (p := ⟨gb187, _, none⟩) NB181_187.out _).trans (hHeld.1)))), ((cell_far (p := ⟨gb187, _, none⟩) NB181_187.out _).trans (((cell_far (p := ⟨gb187, _, none⟩) NB181_187.out _).trans (hHeld.2.1)))), ((cell_far (p := ⟨gb187, _, none⟩) NB180_187.out _).trans (((cell_far (p := ⟨gb187, _, none⟩) NB180_187.out _).trans (hHeld.2.2.1)))), ((cell_far (p := ⟨gb187, _, none⟩) NB180_187.out _).trans (((cell_far (p := ⟨gb187, _, none⟩) NB180_187.out _).trans (hHeld.2.2.2))))⟩ (fun hHeld => ?_)
              clear hK K
              refine done_ (by kernel_rfl) ?_
              try go_wp2
              go_meet
              case rel => exact ⟨_, (a2_0), (a2_1), (a1_0), (a1_1), H', ⟨by have := HJ10.out; first | omega | exact Nat.le_refl _⟩, ⟨by (with_reducible repeat (first | apply Kd.R_alloc | apply Kd.R_drewN | apply Kd.R_drew)); exact Kd.R_mono (Kd.R_far (p := ⟨gb187, 1, none⟩) (Kd.R_far (p := ⟨gb187, 0, none⟩) (Kd.R_far (p := ⟨gb186, 1, none⟩) (Kd.R_far (p := ⟨gb186, 0, none⟩) (Kd.R_types (Kd.R_types HO_7.out BK186.out (by decide)) BK187.out (by decide)) (fun _ hk => hk.1.2) (.int .u64 a2_0)) (fun _ hk => hk.1.2) (.int .u32 a2_1)) (fun _ hk => hk.2) (.int .u64 a1_0)) (fun _ hk => hk.2) (.int .u32 a1_1)) (fun _ hk => trivial)⟩, ⟨by (with_reducible repeat (first | refine blk_drewN ?_ _ | refine blk_drew ?_ | refine blk_alloc ?_ _)); refine blk_far ?_ NB180_187.out _; (with_reducible repeat (first | refine blk_drewN ?_ _ | refine blk_drew ?_ | refine blk_alloc ?_ _)); refine blk_far ?_ NB180_187.out _; (with_reducible repeat (first | refine blk_drewN ?_ _ | refine blk_drew ?_ | refine blk_alloc ?_ _)); refine blk_far ?_ NB180_186.out _; (with_reducible repeat (first | refine blk_drewN ?_ _ | refine blk_drew ?_ | refine blk_alloc ?_ _)); refine blk_far ?_ NB180_186.out _; (with_reducible repeat (first | refine blk_drewN ?_ _ | refine blk_drew ?_ | refine blk_alloc ?_ _)); exact BK180.out⟩, ⟨by (with_reducible repeat (first | refine blk_drewN ?_ _ | refine blk_drew ?_ | refine blk_alloc ?_ _)); refine blk_far ?_ NB181_187.out _; (with_reducible repeat (first | refine blk_drewN ?_ _ | refine blk_drew ?_ | refine blk_alloc ?_ _)); refine blk_far ?_ NB181_187.out _; (with_reducible repeat (first | refine blk_drewN ?_ _ | refine blk_drew ?_ | refine blk_alloc ?_ _)); refine blk_far ?_ NB181_186.out _; (with_reducible repeat (first | refine blk_drewN ?_ _ | refine blk_drew ?_ | refine blk_alloc ?_ _)); refine blk_far ?_ NB181_186.out _; (with_reducible repeat (first | refine blk_drewN ?_ _ | refine blk_drew ?_ | refine blk_alloc ?_ _)); exact BK181.out⟩, ⟨by (with_reducible repeat (first | refine blk_drewN ?_ _ | refine blk_drew ?_ | refine blk_alloc ?_ _)); refine blk_far ?_ NB186_187.out _; (with_reducible repeat (first | refine blk_drewN ?_ _ | refine blk_drew ?_ | refine blk_alloc ?_ _)); refine blk_far ?_ NB186_187.out _; (with_reducible repeat (first | refine blk_drewN ?_ _ | refine blk_drew ?_ | refine blk_alloc ?_ _)); refine blk_put (cs := #[.int .u64 a2_0, .int .u32 a1_1]) ?_ 1 _ rfl; (with_reducible repeat (first | refine blk_drewN ?_ _ | refine blk_drew ?_ | refine blk_alloc ?_ _)); refine blk_put (cs := #[.int .u64 a1_0, .int .u32 a1_1]) ?_ 0 _ rfl; (with_reducible repeat (first | refine blk_drewN ?_ _ | refine blk_drew ?_ | refine blk_alloc ?_ _)); exact BK186.out⟩, ⟨by (with_reducible repeat (first | refine blk_drewN ?_ _ | refine blk_drew ?_ | refine blk_alloc ?_ _)); refine blk_put (cs := #[.int .u64 a1_0, .int .u32 a2_1]) ?_ 1 _ rfl; (with_reducible repeat (first | refine blk_drewN ?_ _ | refine blk_drew ?_ | refine blk_alloc ?_ _)); refine blk_put (cs := #[.int .u64 a2_0, .int .u32 a2_1]) ?_ 0 _ rfl; (with_reducible repeat (first | refine blk_drewN ?_ _ | refine blk_drew ?_ | refine blk_alloc ?_ _)); refine blk_far ?_ NB187_186.out _; (with_reducible repeat (first | refine blk_drewN ?_ _ | refine blk_drew ?_ | refine blk_alloc ?_ _)); refine blk_far ?_ NB187_186.out _; (with_reducible repeat (first | refine blk_drewN ?_ _ | refine blk_drew ?_ | refine blk_alloc ?_ _)); exact BK187.out⟩, ⟨by repeat (first | (with_reducible first | exact HB.out | apply below_alloc | apply pw_below_drewN | apply below_drew1 | refine below_set ?_ GE180.out | refine below_set ?_ GE181.out | refine below_set ?_ GE186.out | refine below_set ?_ GE187.out) | exact HB.out)⟩⟩
            · replace c48 := Bool.eq_false_iff.mpr c48
              subst c48
              have H1 : (dovecotelaw07_ChainPrunes.j1 kj10 t183 a1_0 a1_1 a2_0 a2_1) = some r := by rw [if_neg (show ¬ (false = true) by decide)] at H; exact H
              clear H
              have H := H1
              clear H1
              have H' := Aside0.mk H
              clear H
              go_wp2
              go_meet
              case rel => exact ⟨_, (a1_0), (a1_1), (a2_0), (a2_1), H', ⟨by have := HJ10.out; first | omega | exact Nat.le_refl _⟩, ⟨by (with_reducible repeat (first | apply Kd.R_alloc | apply Kd.R_drewN | apply Kd.R_drew)); exact HO_7.out⟩, ⟨by (with_reducible repeat (first | refine blk_drewN ?_ _ | refine blk_drew ?_ | refine blk_alloc ?_ _)); exact BK180.out⟩, ⟨by (with_reducible repeat (first | refine blk_drewN ?_ _ | refine blk_drew ?_ | refine blk_alloc ?_ _)); exact BK181.out⟩, ⟨by (with_reducible repeat (first | refine blk_drewN ?_ _ | refine blk_drew ?_ | refine blk_alloc ?_ _)); exact BK186.out⟩, ⟨by (with_reducible repeat (first | refine blk_drewN ?_ _ | refine blk_drew ?_ | refine blk_alloc ?_ _)); exact BK187.out⟩, ⟨by repeat (first | (with_reducible first | exact HB.out | apply below_alloc | apply pw_below_drewN | apply below_drew1 | refine below_set ?_ GE180.out | refine below_set ?_ GE181.out | refine below_set ?_ GE186.out | refine below_set ?_ GE187.out) | exact HB.out)⟩⟩
          case rest =>
            clear HC47
            try clear c1
            try clear c2
            try clear p2
            try clear c3
            try clear c4
            try clear c5
            try clear c6
            try clear c6b0
            try clear c6b1
            try clear c13
            try clear c15
            try clear c24
            try clear c24b0
            try clear c25
            try clear c26
            try clear c27
            try clear c29
            try clear c30
            try clear c32
            try clear c32b0
            try clear c32b1
            try clear c33
            try clear c34
            try clear c35
            try clear c37
            try clear c38
            try clear c40
            try clear c41
            try clear c42
            try clear c44
            try clear c45
            try clear c48
            try clear hcz28_0
            try clear hcz28_1
            try clear hcz31_0
            try clear hcz31_1
            try clear hcz36_0
            try clear hcz36_1
            try clear hcz39_0
            try clear hcz39_1
            try clear hcz43_0
            try clear hcz43_1
            try clear hcz46_0
            try clear hcz46_1
            try clear hfz28_0
            try clear hfz28_1
            try clear hfz31_0
            try clear hfz31_1
            try clear hfz36_0
            try clear hfz36_1
            try clear hfz39_0
            try clear hfz39_1
            try clear hfz43_0
            try clear hfz43_1
            try clear hfz46_0
            try clear hfz46_1
            try clear p2
            obtain ⟨kq, x187000_46, x187001_46, x188000_46, x188001_46, HA, HJ46, HO_7, BK180, BK181, BK186, BK187, HB⟩ := hcut
            cases kq with
            | zero => exact absurd HA.out (by simp [dovecotelaw07_ChainPrunes.j1])
            | succ kj46 =>
              have H := HA.out
              clear HA
              simp only [dovecotelaw07_ChainPrunes.j1] at H
              replace H := Option.bind_eq_some_iff.mp H
              obtain ⟨t188, A540, H⟩ := H
              replace H : ((chain_Prune.f kj46 t188 x188000_46 x188001_46).bind fun t191 => ((chain_Prune.f kj46 t183 x188000_46 x188001_46).bind fun t194 => ((dovecoteref07_Same.f kj46 t191 t194).bind fun t197 => (if t197 = true then (if 0 ≤ (t188.length : Int) then (if (t188.length : Int) ≤ (t183.length : Int) then ((dovecoteref07_Same.f kj46 t188 (t183.take ((t188.length : Int) : Int).toNat)).bind fun t202 => (dovecotelaw07_ChainPrunes.j2 kj46 t183 t188 (!t202) x187000_46 x187001_46)) else (none)) else (none)) else (dovecotelaw07_ChainPrunes.j2 kj46 t183 t188 true x187000_46 x187001_46))))) = some r := H
              have A54 := Aside0.mk A540
              clear A540
              have HC55 := Aside0.mk H
              clear H
              have hnb56 := NB186_180.out
              have hnc56 := NB180_186.out
              have hnb57 := NB186_181.out
              have hnc57 := NB181_186.out
              have hnb58 := NB186_187.out
              have hnc58 := NB187_186.out
              have hcz59_0 : wc.cell? ⟨gb186, 0, none⟩ = some (.int .u64 x187000_46) := (blk_cell BK186.out 0).trans rfl
              have hcz59_1 : wc.cell? ⟨gb186, 1, none⟩ = some (.int .u32 x187001_46) := (blk_cell BK186.out 1).trans rfl
              have hfz59_0 := blk_frozen BK186.out 0
              have hfz59_1 := blk_frozen BK186.out 1
              obtain ⟨Ao60, co60, eo60⟩ := Kd.R_slice HO_7.out
              subst eo60
              go_upto_region 10 with (first | ((with_reducible refine gate_callee (f := 18) rfl ?_); refine goesL_ (some 48) rfl rfl Try.func18 (by kernel_rfl) rfl #[.slice Ao60 t183.length co60, .agg #[.int .u64 x187000_46, .int .u32 x187001_46]] rfl (by (try simp only [List.map_toArray, List.map_cons, List.map_nil]); first | done | rfl | (simp only [List.length_drop, List.length_take]; rfl)) ?_; (with_reducible refine (chain_Prune.calls kj46 _ _ t183 x187000_46 x187001_46 t188 _ ?side1 ?side2 A54.out).mono ?_); (case side1 => repeat (first | exact (Kd.R_reads' HO_7.out).2.2 | (with_reducible refine Kd.C_alloc ?_ _) | (with_reducible refine Kd.C_drewN ?_ _) | (with_reducible refine Kd.C_drew ?_))); (case side2 => exact (Kd.R_reads' HO_7.out).2.1); rintro e w61 ⟨v189, rfl, ho0, hb⟩; refine ⟨_, rfl, ?_⟩; have n0_ := Aside0.mk (Kd.R_elder' (by (with_reducible repeat (first | apply Kd.R_alloc | apply Kd.R_drewN | apply Kd.R_drew)); exact HO_7.out) (Kd.R_base ho0) hb); have n1_ := Aside0.mk (Kd.R_lower (Kd.R_new' ho0 (Kd.R_lt (by (with_reducible repeat (first | apply Kd.R_alloc | apply Kd.R_drewN | apply Kd.R_drew)); exact HO_7.out))) (below_size (by repeat (first | (with_reducible first | exact HB.out | apply below_alloc | apply pw_below_drewN | apply below_drew1 | refine below_set ?_ GE180.out | refine below_set ?_ GE181.out | refine below_set ?_ GE186.out | refine below_set ?_ GE187.out) | exact HB.out)))); have n2_ := Aside0.mk (blk_below (g := gb180) (o := .cells #[.int .u64 a1_0, .int .u32 a1_1] 27 (0, 0)) (by (with_reducible repeat (first | refine blk_drewN ?_ _ | refine blk_drew ?_ | refine blk_alloc ?_ _)); exact BK180.out) hb); have n3_ := Aside0.mk (blk_below (g := gb181) (o := .cells #[.int .u64 a2_0, .int .u32 a2_1] 27 (0, 0)) (by (with_reducible repeat (first | refine blk_drewN ?_ _ | refine blk_drew ?_ | refine blk_alloc ?_ _)); exact BK181.out) hb); have n4_ := Aside0.mk (blk_below (g := gb186) (o := .cells #[.int .u64 x187000_46, .int .u32 x187001_46] 27 (0, 0)) (by (with_reducible repeat (first | refine blk_drewN ?_ _ | refine blk_drew ?_ | refine blk_alloc ?_ _)); exact BK186.out) hb); have n5_ := Aside0.mk (blk_below (g := gb187) (o := .cells #[.int .u64 x188000_46, .int .u32 x188001_46] 27 (0, 0)) (by (with_reducible repeat (first | refine blk_drewN ?_ _ | refine blk_drew ?_ | refine blk_alloc ?_ _)); exact BK187.out) hb); have n6_ := Aside0.mk (below_step (by repeat (first | (with_reducible first | exact HB.out | apply below_alloc | apply pw_below_drewN | apply below_drew1 | refine below_set ?_ GE180.out | refine below_set ?_ GE181.out | refine below_set ?_ GE186.out | refine below_set ?_ GE187.out) | exact HB.out)) hb); clear HO_7; clear BK180; clear BK181; clear BK186; clear BK187; clear HB; have HO_7 := n0_; have HO190 := n1_; have BK180 := n2_; have BK181 := n3_; have BK186 := n4_; have BK187 := n5_; have HB := n6_; clear n0_ n1_ n2_ n3_ n4_ n5_ n6_; (try clear hb); (try clear hb2); (try clear hk); (try clear hi); (try clear ho0)))
              (try simp only [Act.put, List.setIfInBounds_toArray, List.set_cons_zero, List.set_cons_succ])
              go_cut [65] (fun v65 wc => ∃ (kq : Nat) (x65_54 : Bool), v65 = .bool x65_54 ∧ Aside0 (dovecotelaw07_ChainPrunes.j2 kq t183 t188 x65_54 x187000_46 x187001_46 = some r) ∧ Aside0 (kq ≤ kj46) ∧ Aside0 (Kd.R k31 31 wc w.heap.size (fun k_ => some k_ ≠ (v189 : Value).ownBlock) (.slice Ao60 t183.length co60) t183) ∧ Aside0 (Kd.R k31 31 wc w.heap.size (fun k_ => some k_ ≠ ((.slice Ao60 t183.length co60) : Value).ownBlock) v189 t188) ∧ Aside0 (wc.heap[gb180]? = some (.cells #[.int .u64 a1_0, .int .u32 a1_1] 27 (0, 0))) ∧ Aside0 (wc.heap[gb181]? = some (.cells #[.int .u64 a2_0, .int .u32 a2_1] 27 (0, 0))) ∧ Aside0 (wc.heap[gb186]? = some (.cells #[.int .u64 x187000_46, .int .u32 x187001_46] 27 (0, 0))) ∧ Aside0 (wc.heap[gb187]? = some (.cells #[.int .u64 x188000_46, .int .u32 x188001_46] 27 (0, 0))) ∧ Aside0 (Below w.heap.size w wc))
              case first =>
                have H := HC55.out
                clear HC55
                replace H := Option.bind_eq_some_iff.mp H
                obtain ⟨t191, A620, H⟩ := H
                replace H : ((chain_Prune.f kj46 t183 x188000_46 x188001_46).bind fun t194 => ((dovecoteref07_Same.f kj46 t191 t194).bind fun t197 => (if t197 = true then (if 0 ≤ (t188.length : Int) then (if (t188.length : Int) ≤ (t183.length : Int) then ((dovecoteref07_Same.f kj46 t188 (t183.take ((t188.length : Int) : Int).toNat)).bind fun t202 => (dovecotelaw07_ChainPrunes.j2 kj46 t183 t188 (!t202) x187000_46 x187001_46)) else (none)) else (none)) else (dovecotelaw07_ChainPrunes.j2 kj46 t183 t188 true x187000_46 x187001_46)))) = some r := H
                have A62 := Aside0.mk A620
                clear A620
                replace H := Option.bind_eq_some_iff.mp H
                obtain ⟨t194, A630, H⟩ := H
                replace H : ((dovecoteref07_Same.f kj46 t191 t194).bind fun t197 => (if t197 = true then (if 0 ≤ (t188.length : Int) then (if (t188.length : Int) ≤ (t183.length : Int) then ((dovecoteref07_Same.f kj46 t188 (t183.take ((t188.length : Int) : Int).toNat)).bind fun t202 => (dovecotelaw07_ChainPrunes.j2 kj46 t183 t188 (!t202) x187000_46 x187001_46)) else (none)) else (none)) else (dovecotelaw07_ChainPrunes.j2 kj46 t183 t188 true x187000_46 x187001_46))) = some r := H
                have A63 := Aside0.mk A630
                clear A630
                replace H := Option.bind_eq_some_iff.mp H
                obtain ⟨t197, A640, H⟩ := H
                replace H : (if t197 = true then (if 0 ≤ (t188.length : Int) then (if (t188.length : Int) ≤ (t183.length : Int) then ((dovecoteref07_Same.f kj46 t188 (t183.take ((t188.length : Int) : Int).toNat)).bind fun t202 => (dovecotelaw07_ChainPrunes.j2 kj46 t183 t188 (!t202) x187000_46 x187001_46)) else (none)) else (none)) else (dovecotelaw07_ChainPrunes.j2 kj46 t183 t188 true x187000_46 x187001_46)) = some r := H
                have A64 := Aside0.mk A640
                clear A640
                by_cases c65 : t197 = true
                · subst c65
                  have H1 : (if 0 ≤ (t188.length : Int) then (if (t188.length : Int) ≤ (t183.length : Int) then ((dovecoteref07_Same.f kj46 t188 (t183.take ((t188.length : Int) : Int).toNat)).bind fun t202 => (dovecotelaw07_ChainPrunes.j2 kj46 t183 t188 (!t202) x187000_46 x187001_46)) else (none)) else (none)) = some r := by rw [if_pos rfl] at H; exact H
                  clear H
                  have H := H1
                  clear H1
                  by_cases c66 : 0 ≤ (t188.length : Int)
                  · rw [if_pos c66] at H
                    have c66b0 := eq_true c66
                    have c66b1 : decide (0 ≤ (t188.length : Int)) = true := decide_eq_true c66
                    clear c66
                    by_cases c67 : (t188.length : Int) ≤ (t183.length : Int)
                    · rw [if_pos c67] at H
                      have c67b0 := eq_true c67
                      have c67b1 : decide ((t188.length : Int) ≤ (t183.length : Int)) = true := decide_eq_true c67
                      clear c67
                      obtain ⟨y198, hy198⟩ : ∃ y_ : List (S31), y_ = (t183.take ((t188.length : Int) : Int).toNat) := ⟨_, rfl⟩
                      replace H : ((dovecoteref07_Same.f kj46 t188 y198).bind fun t202 => (dovecotelaw07_ChainPrunes.j2 kj46 t183 t188 (!t202) x187000_46 x187001_46)) = some r := by first | (rw [hy198]; with_reducible exact H) | (have H2_ := (Option.bind_some _ _).symm.trans H; rw [hy198]; with_reducible exact H2_) | (have H2_ := (Option.bind_some _ _).symm.trans H; with_reducible exact H2_) | with_reducible exact H | (rw [hy198]; exact H) | exact H
                      have Ny198 := Aside0.mk hy198
                      clear hy198
                      replace H := Option.bind_eq_some_iff.mp H
                      obtain ⟨t202, A680, H⟩ := H
                      replace H : (dovecotelaw07_ChainPrunes.j2 kj46 t183 t188 (!t202) x187000_46 x187001_46) = some r := H
                      have A68 := Aside0.mk A680
                      clear A680
                      have H' := Aside0.mk H
                      clear H
                      try go_wp2
                      have n0_ := Aside0.mk (Kd.R_drew HO_7.out)
                      have n1_ := Aside0.mk (Kd.R_drew HO190.out)
                      have n2_ := Aside0.mk (blk_drew BK180.out)
                      have n3_ := Aside0.mk (blk_drew BK181.out)
                      have n4_ := Aside0.mk (blk_drew BK186.out)
                      have n5_ := Aside0.mk (blk_drew BK187.out)
                      have n6_ := Aside0.mk (below_drew1 HB.out)
                      clear HO_7
                      clear HO190
                      clear BK180
                      clear BK181
                      clear BK186
                      clear BK187
                      clear HB
                      have HO_7 := n0_
                      have HO190 := n1_
                      have BK180 := n2_
                      have BK181 := n3_
                      have BK186 := n4_
                      have BK187 := n5_
                      have HB := n6_
                      clear n0_ n1_ n2_ n3_ n4_ n5_ n6_
                      obtain ⟨Ao70, co70, eo70⟩ := Kd.R_slice HO190.out
                      (first | subst eo70 | (injection eo70 with f1_ f2_ f3_; have f4_ := f1_.symm; have f5_ := f3_.symm; clear f1_ f2_ f3_; subst f4_; subst f5_))
                      refine start_ (n := 17) (S := fun w' => w'.cell? ⟨gb187, 0, none⟩ = some (.int .u64 x188000_46) ∧ w'.cell? ⟨gb187, 1, none⟩ = some (.int .u32 x188001_46)) (ds := []) #[false, false, false, false, false, false, false, false, false, false, false, false, false, false, false, false, false] (by kernel_rfl) rfl rfl ⟨(blk_cell BK187.out 0).trans rfl, (blk_cell BK187.out 1).trans rfl⟩ (fun hHeld => ?_); refine with_tabW dovecotelaw07_ChainPrunes.tab10 dovecotelaw07_ChainPrunes.bits10 (fun HT_ HW_ => ?_)
                      generalize w61.drew = w69 at HO_7 HO190 BK180 BK181 BK186 BK187 HB hHeld ⊢
                      refine pure_ (i := 0) (N := some 49) (v := ?_) (a' := ?_) #[true, false, false, false, false, false, false, false, false, false, false, false, false, false, false, false, false] rfl rfl (any_of HT_.out (by kernel_rfl)) (fun _ _ _ h => h) (Or.inl ⟨by rfl, ?_⟩) ?_ ?_
                      rotate_left
                      · intro w'
                        go_simp
                        with_reducible rfl
                      rotate_left
                      · simp only [Act.put, List.setIfInBounds_toArray, List.set_cons_zero, List.set_cons_succ, i64_w, i32_w]
                        rfl
                      refine pure_ (i := 3) (N := some 52) (v := ?_) (a' := ?_) #[true, false, false, true, false, false, false, false, false, false, false, false, false, false, false, false, false] rfl rfl (any_of HT_.out (by kernel_rfl)) (fun _ _ _ h => h) (Or.inl ⟨by rfl, ?_⟩) ?_ ?_
                      rotate_left
                      · intro w'
                        go_simp
                        with_reducible rfl
                      rotate_left
                      · simp only [Act.put, List.setIfInBounds_toArray, List.set_cons_zero, List.set_cons_succ, i64_w, i32_w]
                        rfl
                      refine take_ (i := 1) (N := some 50) (v := ?_) (a' := ?_) #[true, true, false, true, false, false, false, false, false, false, false, false, false, false, false, false, false] rfl rfl (take_ofW HT_.out HW_.out (by kernel_rfl)) (fun _ _ _ h => h) (Or.inl ⟨by rfl, ?_⟩) hHeld ?_ ?_
                      rotate_left
                      · rintro w' ⟨s0, s1⟩
                        go_simp
                        with_reducible rfl
                      rotate_left
                      · simp only [Act.put, List.setIfInBounds_toArray, List.set_cons_zero, List.set_cons_succ, i64_w, i32_w]
                        rfl
                      refine take_ (i := 4) (N := some 53) (v := ?_) (a' := ?_) #[true, true, false, true, true, false, false, false, false, false, false, false, false, false, false, false, false] rfl rfl (take_ofW HT_.out HW_.out (by kernel_rfl)) (fun _ _ _ h => h) (Or.inl ⟨by rfl, ?_⟩) hHeld ?_ ?_
                      rotate_left
                      · rintro w' ⟨s0, s1⟩
                        go_simp
                        with_reducible rfl
                      rotate_left
                      · simp only [Act.put, List.setIfInBounds_toArray, List.set_cons_zero, List.set_cons_succ, i64_w, i32_w]
                        rfl
                      refine one_ (i := 2) (N := some 51) #[true, true, true, true, true, false, false, false, false, false, false, false, false, false, false, false, false] rfl rfl (one_of HT_.out (by kernel_rfl)) (by decide) (fun K hK => ?_)
                      refine goes_ Try.func18 (by kernel_rfl) rfl #[.slice Ao70 t188.length co70, .agg #[.int .u64 x188000_46, .int .u32 x188001_46]] (by rfl) rfl rfl (by (try simp only [List.map_toArray, List.map_cons, List.map_nil]); first | done | rfl | (simp only [List.length_drop, List.length_take]; rfl)) ?_
                      with_reducible refine (chain_Prune.calls kj46 _ _ t188 x188000_46 x188001_46 t191 _ ?side1 ?side2 A62.out).mono ?_
                      (case side1 => repeat (first | exact (Kd.R_reads' HO190.out).2.2 | (with_reducible refine Kd.C_alloc ?_ _) | (with_reducible refine Kd.C_drewN ?_ _) | (with_reducible refine Kd.C_drew ?_)))
                      (case side2 => exact (Kd.R_reads' HO190.out).2.1)
                      rintro e w71 ⟨v192, rfl, ho0, hb⟩
                      refine ⟨_, rfl, ?_⟩
                      have n0_ := Aside0.mk (Kd.R_elder' (by (with_reducible repeat (first | apply Kd.R_alloc | apply Kd.R_drewN | apply Kd.R_drew)); exact HO_7.out) (Kd.R_base ho0) hb)
                      have n1_ := Aside0.mk (Kd.R_elder' (by (with_reducible repeat (first | apply Kd.R_alloc | apply Kd.R_drewN | apply Kd.R_drew)); exact HO190.out) (Kd.R_base ho0) hb)
                      have n2_ := Aside0.mk (Kd.R_lower (Kd.R_new' (Kd.R_new' ho0 (Kd.R_lt (by (with_reducible repeat (first | apply Kd.R_alloc | apply Kd.R_drewN | apply Kd.R_drew)); exact HO_7.out))) (Kd.R_lt (by (with_reducible repeat (first | apply Kd.R_alloc | apply Kd.R_drewN | apply Kd.R_drew)); exact HO190.out))) (below_size (by repeat (first | (with_reducible first | exact HB.out | apply below_alloc | apply pw_below_drewN | apply below_drew1 | refine below_set ?_ GE180.out | refine below_set ?_ GE181.out | refine below_set ?_ GE186.out | refine below_set ?_ GE187.out) | exact HB.out))))
                      have n3_ := Aside0.mk (blk_below (g := gb180) (o := .cells #[.int .u64 a1_0, .int .u32 a1_1] 27 (0, 0)) (by (with_reducible repeat (first | refine blk_drewN ?_ _ | refine blk_drew ?_ | refine blk_alloc ?_ _)); exact BK180.out) hb)
                      have n4_ := Aside0.mk (blk_below (g := gb181) (o := .cells #[.int .u64 a2_0, .int .u32 a2_1] 27 (0, 0)) (by (with_reducible repeat (first | refine blk_drewN ?_ _ | refine blk_drew ?_ | refine blk_alloc ?_ _)); exact BK181.out) hb)
                      have n5_ := Aside0.mk (blk_below (g := gb186) (o := .cells #[.int .u64 x187000_46, .int .u32 x187001_46] 27 (0, 0)) (by (with_reducible repeat (first | refine blk_drewN ?_ _ | refine blk_drew ?_ | refine blk_alloc ?_ _)); exact BK186.out) hb)
                      have n6_ := Aside0.mk (blk_below (g := gb187) (o := .cells #[.int .u64 x188000_46, .int .u32 x188001_46] 27 (0, 0)) (by (with_reducible repeat (first | refine blk_drewN ?_ _ | refine blk_drew ?_ | refine blk_alloc ?_ _)); exact BK187.out) hb)
                      have n7_ := Aside0.mk (below_step (by repeat (first | (with_reducible first | exact HB.out | apply below_alloc | apply pw_below_drewN | apply below_drew1 | refine below_set ?_ GE180.out | refine below_set ?_ GE181.out | refine below_set ?_ GE186.out | refine below_set ?_ GE187.out) | exact HB.out)) hb)
                      clear HO_7
                      clear HO190
                      clear BK180
                      clear BK181
                      clear BK186
                      clear BK187
                      clear HB
                      have HO_7 := n0_
                      have HO190 := n1_
                      have HO193 := n2_
                      have BK180 := n3_
                      have BK181 := n4_
                      have BK186 := n5_
                      have BK187 := n6_
                      have HB := n7_
                      clear n0_ n1_ n2_ n3_ n4_ n5_ n6_ n7_
                      (try clear hb)
                      (try clear hb2)
                      (try clear hk)
                      (try clear hi)
                      (try clear ho0)
                      refine hK.out _ _ ⟨(blk_cell BK187.out 0).trans rfl, (blk_cell BK187.out 1).trans rfl⟩ (fun hHeld => ?_)
                      clear hK K
                      refine norm_ (a' := ?_) ?_ ?_
                      rotate_left
                      · show Act.put _ (some 51) _ = _
                        simp only [Act.put, List.setIfInBounds_toArray, List.set_cons_zero, List.set_cons_succ, i64_w, i32_w]
                        rfl
                      refine one_ (i := 5) (N := some 54) #[true, true, true, true, true, true, false, false, false, false, false, false, false, false, false, false, false] rfl rfl (one_of HT_.out (by kernel_rfl)) (by decide) (fun K hK => ?_)
                      refine goes_ Try.func18 (by kernel_rfl) rfl #[.slice Ao60 t183.length co60, .agg #[.int .u64 x188000_46, .int .u32 x188001_46]] (by rfl) rfl rfl (by (try simp only [List.map_toArray, List.map_cons, List.map_nil]); first | done | rfl | (simp only [List.length_drop, List.length_take]; rfl)) ?_
                      with_reducible refine (chain_Prune.calls kj46 _ _ t183 x188000_46 x188001_46 t194 _ ?side1 ?side2 A63.out).mono ?_
                      (case side1 => repeat (first | exact (Kd.R_reads' HO_7.out).2.2 | (with_reducible refine Kd.C_alloc ?_ _) | (with_reducible refine Kd.C_drewN ?_ _) | (with_reducible refine Kd.C_drew ?_)))
                      (case side2 => exact (Kd.R_reads' HO_7.out).2.1)
                      rintro e w72 ⟨v195, rfl, ho0, hb⟩
                      refine ⟨_, rfl, ?_⟩
                      have n0_ := Aside0.mk (Kd.R_elder' (by (with_reducible repeat (first | apply Kd.R_alloc | apply Kd.R_drewN | apply Kd.R_drew)); exact HO_7.out) (Kd.R_base ho0) hb)
                      have n1_ := Aside0.mk (Kd.R_elder' (by (with_reducible repeat (first | apply Kd.R_alloc | apply Kd.R_drewN | apply Kd.R_drew)); exact HO190.out) (Kd.R_base ho0) hb)
                      have n2_ := Aside0.mk (Kd.R_elder' (by (with_reducible repeat (first | apply Kd.R_alloc | apply Kd.R_drewN | apply Kd.R_drew)); exact HO193.out) (Kd.R_base ho0) hb)
                      have n3_ := Aside0.mk (Kd.R_lower (Kd.R_new' (Kd.R_new' (Kd.R_new' ho0 (Kd.R_lt (by (with_reducible repeat (first | apply Kd.R_alloc | apply Kd.R_drewN | apply Kd.R_drew)); exact HO_7.out))) (Kd.R_lt (by (with_reducible repeat (first | apply Kd.R_alloc | apply Kd.R_drewN | apply Kd.R_drew)); exact HO190.out))) (Kd.R_lt (by (with_reducible repeat (first | apply Kd.R_alloc | apply Kd.R_drewN | apply Kd.R_drew)); exact HO193.out))) (below_size (by repeat (first | (with_reducible first | exact HB.out | apply below_alloc | apply pw_below_drewN | apply below_drew1 | refine below_set ?_ GE180.out | refine below_set ?_ GE181.out | refine below_set ?_ GE186.out | refine below_set ?_ GE187.out) | exact HB.out))))
                      have n4_ := Aside0.mk (blk_below (g := gb180) (o := .cells #[.int .u64 a1_0, .int .u32 a1_1] 27 (0, 0)) (by (with_reducible repeat (first | refine blk_drewN ?_ _ | refine blk_drew ?_ | refine blk_alloc ?_ _)); exact BK180.out) hb)
                      have n5_ := Aside0.mk (blk_below (g := gb181) (o := .cells #[.int .u64 a2_0, .int .u32 a2_1] 27 (0, 0)) (by (with_reducible repeat (first | refine blk_drewN ?_ _ | refine blk_drew ?_ | refine blk_alloc ?_ _)); exact BK181.out) hb)
                      have n6_ := Aside0.mk (blk_below (g := gb186) (o := .cells #[.int .u64 x187000_46, .int .u32 x187001_46] 27 (0, 0)) (by (with_reducible repeat (first | refine blk_drewN ?_ _ | refine blk_drew ?_ | refine blk_alloc ?_ _)); exact BK186.out) hb)
                      have n7_ := Aside0.mk (blk_below (g := gb187) (o := .cells #[.int .u64 x188000_46, .int .u32 x188001_46] 27 (0, 0)) (by (with_reducible repeat (first | refine blk_drewN ?_ _ | refine blk_drew ?_ | refine blk_alloc ?_ _)); exact BK187.out) hb)
                      have n8_ := Aside0.mk (below_step (by repeat (first | (with_reducible first | exact HB.out | apply below_alloc | apply pw_below_drewN | apply below_drew1 | refine below_set ?_ GE180.out | refine below_set ?_ GE181.out | refine below_set ?_ GE186.out | refine below_set ?_ GE187.out) | exact HB.out)) hb)
                      clear HO_7
                      clear HO190
                      clear HO193
                      clear BK180
                      clear BK181
                      clear BK186
                      clear BK187
                      clear HB
                      have HO_7 := n0_
                      have HO190 := n1_
                      have HO193 := n2_
                      have HO196 := n3_
                      have BK180 := n4_
                      have BK181 := n5_
                      have BK186 := n6_
                      have BK187 := n7_
                      have HB := n8_
                      clear n0_ n1_ n2_ n3_ n4_ n5_ n6_ n7_ n8_
                      (try clear hb)
                      (try clear hb2)
                      (try clear hk)
                      (try clear hi)
                      (try clear ho0)
                      obtain ⟨Ao73, co73, eo73⟩ := Kd.R_slice HO193.out
                      (first | subst eo73 | (injection eo73 with f1_ f2_ f3_; have f4_ := f1_.symm; have f5_ := f3_.symm; clear f1_ f2_ f3_; subst f4_; subst f5_))
                      obtain ⟨Ao74, co74, eo74⟩ := Kd.R_slice HO196.out
                      (first | subst eo74 | (injection eo74 with f1_ f2_ f3_; have f4_ := f1_.symm; have f5_ := f3_.symm; clear f1_ f2_ f3_; subst f4_; subst f5_))
                      refine hK.out _ _ ⟨(blk_cell BK187.out 0).trans rfl, (blk_cell BK187.out 1).trans rfl⟩ (fun hHeld => ?_)
                      clear hK K
                      refine norm_ (a' := ?_) ?_ ?_
                      rotate_left
                      · show Act.put _ (some 54) _ = _
                        simp only [Act.put, List.setIfInBounds_toArray, List.set_cons_zero, List.set_cons_succ, i64_w, i32_w]
                        rfl
                      refine one_ (i := 6) (N := some 55) #[true, true, true, true, true, true, true, false, false, false, false, false, false, false, false, false, false] rfl rfl (one_of HT_.out (by kernel_rfl)) (by decide) (fun K hK => ?_)
                      refine goes_ Try.func14 (by kernel_rfl) rfl #[.slice Ao73 t191.length co73, .slice Ao74 t194.length co74] (by rfl) rfl rfl (by (try simp only [List.map_toArray, List.map_cons, List.map_nil]); first | done | rfl | (simp only [List.length_drop, List.length_take]; rfl)) ?_
                      with_reducible refine (dovecoteref07_Same.calls kj46 _ _ t191 _ _ t194 true _ ?side1 ?side2 ?side3 ?side4 A64.out).mono ?_
                      (case side1 => repeat (first | exact (Kd.R_reads' HO193.out).2.2 | (with_reducible refine Kd.C_alloc ?_ _) | (with_reducible refine Kd.C_drewN ?_ _) | (with_reducible refine Kd.C_drew ?_)))
                      (case side2 => exact (Kd.R_reads' HO193.out).2.1)
                      (case side3 => repeat (first | exact (Kd.R_reads' HO196.out).2.2 | (with_reducible refine Kd.C_alloc ?_ _) | (with_reducible refine Kd.C_drewN ?_ _) | (with_reducible refine Kd.C_drew ?_)))
                      (case side4 => exact (Kd.R_reads' HO196.out).2.1)
                      rintro e w' ⟨rfl, ⟨nd, rfl⟩⟩
                      refine ⟨_, rfl, ?_⟩
                      have q75 : ((t188.length : Int) : Int) ≤ ((t183.length : Int) : Int) := of_decide_eq_true (by first | (with_reducible assumption) | assumption)
                      obtain ⟨i075, hi075, _, hsz75, _⟩ := info_parts info31
                      have hroom75 : t183.length ≤ co60 := (Kd.R_reads' HO_7.out).2.1
                      have hC75 : Kd.C k31 _ Ao60 t183.length t183 := (Kd.R_reads' HO_7.out).2.2
                      have hcut75 := cut_to (P := Try.prog) 22 31 .i64 Try.underlying22 hi075 Ao60 t183.length co60 (t188.length : Int) (of_decide_eq_true (by first | (with_reducible assumption) | assumption)) q75 hroom75
                      have hr75 := Kd.C_take (m := ((t188.length : Int) : Int).toNat) hC75 (by omega)
                      have hy75 : y198.length = ((t188.length : Int) : Int).toNat := (by rw [Ny198.out, List.length_take]; omega)
                      rw [← Ny198.out] at hr75
                      rw [← hy75] at hcut75
                      have HR201 := Aside0.mk hr75
                      have HC201 := Aside0.mk (show y198.length ≤ co60 from by omega)
                      clear hr75 hC75 hroom75 hi075 hsz75
                      have KY75 := Aside0.mk hy75
                      clear hy75
                      have KL75 := Aside0.mk (show ((t188.length : Int) : Int).toNat ≤ t183.length from by omega)
                      replace q75 := eq_true q75
                      refine hK.out _ _ ⟨(blk_cell BK187.out 0).trans rfl, (blk_cell BK187.out 1).trans rfl⟩ (fun hHeld => ?_)
                      clear hK K
                      refine norm_ (a' := ?_) ?_ ?_
                      rotate_left
                      · show Act.put _ (some 55) _ = _
                        simp only [Act.put, List.setIfInBounds_toArray, List.set_cons_zero, List.set_cons_succ, i64_w, i32_w]
                        rfl
                      refine pure_ (i := 7) (N := some 56) (v := ?_) (a' := ?_) #[true, true, true, true, true, true, true, true, false, false, false, false, false, false, false, false, false] rfl rfl (any_of HT_.out (by kernel_rfl)) (fun _ _ _ h => h) (Or.inl ⟨by rfl, ?_⟩) ?_ ?_
                      rotate_left
                      · intro w'
                        go_simp
                        with_reducible rfl
                      rotate_left
                      · simp only [Act.put, List.setIfInBounds_toArray, List.set_cons_zero, List.set_cons_succ, i64_w, i32_w]
                        rfl
                      refine pure_ (i := 8) (N := some 57) (v := ?_) (a' := ?_) #[true, true, true, true, true, true, true, true, true, false, false, false, false, false, false, false, false] rfl rfl (any_of HT_.out (by kernel_rfl)) (fun _ _ _ h => h) (Or.inl ⟨by rfl, ?_⟩) ?_ ?_
                      rotate_left
                      · intro w'
                        go_simp
                        with_reducible rfl
                      rotate_left
                      · simp only [Act.put, List.setIfInBounds_toArray, List.set_cons_zero, List.set_cons_succ, i64_w, i32_w]
                        rfl
                      refine pure_ (i := 9) (N := some 58) (v := ?_) (a' := ?_) #[true, true, true, true, true, true, true, true, true, true, false, false, false, false, false, false, false] rfl rfl (any_of HT_.out (by kernel_rfl)) (fun _ _ _ h => h) (Or.inl ⟨by rfl, ?_⟩) ?_ ?_
                      rotate_left
                      · intro w'
                        go_simp
                        with_reducible rfl
                      rotate_left
                      · simp only [Act.put, List.setIfInBounds_toArray, List.set_cons_zero, List.set_cons_succ, i64_w, i32_w]
                        rfl
                      refine pure_ (i := 10) (N := some 59) (v := ?_) (a' := ?_) #[true, true, true, true, true, true, true, true, true, true, true, false, false, false, false, false, false] rfl rfl (any_of HT_.out (by kernel_rfl)) (fun _ _ _ h => h) (Or.inl ⟨by rfl, ?_⟩) ?_ ?_
                      rotate_left
                      · intro w'
                        go_simp
                        with_reducible rfl
                      rotate_left
                      · simp only [Act.put, List.setIfInBounds_toArray, List.set_cons_zero, List.set_cons_succ, i64_w, i32_w]
                        rfl
                      refine pure_ (i := 11) (N := some 60) (v := ?_) (a' := ?_) #[true, true, true, true, true, true, true, true, true, true, true, true, false, false, false, false, false] rfl rfl (any_of HT_.out (by kernel_rfl)) (fun _ _ _ h => h) (Or.inl ⟨by rfl, ?_⟩) ?_ ?_
                      rotate_left
                      · intro w'
                        go_simp
                        with_reducible rfl
                      rotate_left
                      · simp only [Act.put, List.setIfInBounds_toArray, List.set_cons_zero, List.set_cons_succ, i64_w, i32_w]
                        rfl
                      refine pure_ (i := 12) (N := some 61) (v := ?_) (a' := ?_) #[true, true, true, true, true, true, true, true, true, true, true, true, true, false, false, false, false] rfl rfl (any_of HT_.out (by kernel_rfl)) (fun _ _ _ h => h) (Or.inl ⟨by rfl, ?_⟩) ?_ ?_
                      rotate_left
                      · intro w'
                        go_simp
                        with_reducible rfl
                      rotate_left
                      · simp only [Act.put, List.setIfInBounds_toArray, List.set_cons_zero, List.set_cons_succ, i64_w, i32_w]
                        rfl
                      refine pure_ (i := 13) (N := some 62) (v := ?_) (a' := ?_) #[true, true, true, true, true, true, true, true, true, true, true, true, true, true, false, false, false] rfl rfl (any_of HT_.out (by kernel_rfl)) (fun _ _ _ h => h) (Or.inl ⟨by rfl, ?_⟩) ?_ ?_
                      rotate_left
                      · intro w'
                        go_simp
                        with_reducible rfl
                      rotate_left
                      · simp only [Act.put, List.setIfInBounds_toArray, List.set_cons_zero, List.set_cons_succ, i64_w, i32_w]
                        rfl
                      refine one_ (i := 14) (N := some 63) #[true, true, true, true, true, true, true, true, true, true, true, true, true, true, true, false, false] rfl rfl (one_of HT_.out (by kernel_rfl)) (by decide) (fun K hK => ?_)
                      refine goes_ Try.func14 (by kernel_rfl) rfl #[.slice Ao70 t188.length co70, .slice Ao60 y198.length co60] (by rfl) rfl rfl (by (try simp only [List.map_toArray, List.map_cons, List.map_nil]); first | done | rfl | (simp only [List.length_drop, List.length_take]; rfl)) ?_
                      with_reducible refine (dovecoteref07_Same.calls kj46 _ _ t188 _ _ y198 t202 _ ?side1 ?side2 ?side3 ?side4 A68.out).mono ?_
                      (case side1 => repeat (first | exact (Kd.R_reads' HO190.out).2.2 | (with_reducible refine Kd.C_alloc ?_ _) | (with_reducible refine Kd.C_drewN ?_ _) | (with_reducible refine Kd.C_drew ?_)))
                      (case side2 => exact (Kd.R_reads' HO190.out).2.1)
                      (case side3 => repeat (first | exact (by repeat (first | (with_reducible exact HR201.out) | (with_reducible refine Kd.C_alloc ?_ _) | (with_reducible refine Kd.C_drewN ?_ _) | (with_reducible refine Kd.C_drew ?_) | exact HR201.out)) | (with_reducible refine Kd.C_alloc ?_ _) | (with_reducible refine Kd.C_drewN ?_ _) | (with_reducible refine Kd.C_drew ?_)))
                      (case side4 => exact HC201.out)
                      rintro e w' ⟨rfl, ⟨nd, rfl⟩⟩
                      refine ⟨_, rfl, ?_⟩
                      refine hK.out _ _ ⟨(blk_cell BK187.out 0).trans rfl, (blk_cell BK187.out 1).trans rfl⟩ (fun hHeld => ?_)
                      clear hK K
                      refine norm_ (a' := ?_) ?_ ?_
                      rotate_left
                      · show Act.put _ (some 63) _ = _
                        simp only [Act.put, List.setIfInBounds_toArray, List.set_cons_zero, List.set_cons_succ, i64_w, i32_w]
                        rfl
                      refine pure_ (i := 15) (N := some 64) (v := ?_) (a' := ?_) #[true, true, true, true, true, true, true, true, true, true, true, true, true, true, true, true, false] rfl rfl (any_of HT_.out (by kernel_rfl)) (fun _ _ _ h => h) (Or.inl ⟨by rfl, ?_⟩) ?_ ?_
                      rotate_left
                      · intro w'
                        go_simp
                        with_reducible rfl
                      rotate_left
                      · simp only [Act.put, List.setIfInBounds_toArray, List.set_cons_zero, List.set_cons_succ, i64_w, i32_w]
                        rfl
                      refine pure_ (i := 16) (N := some 65) (v := ?_) (a' := ?_) #[true, true, true, true, true, true, true, true, true, true, true, true, true, true, true, true, true] rfl rfl (any_of HT_.out (by kernel_rfl)) (fun _ _ _ h => h) (Or.inl ⟨by rfl, ?_⟩) ?_ ?_
                      rotate_left
                      · intro w'
                        go_simp
                        with_reducible rfl
                      rotate_left
                      · simp only [Act.put, List.setIfInBounds_toArray, List.set_cons_zero, List.set_cons_succ, i64_w, i32_w]
                        rfl
                      refine done_ (done_of HT_.out (by kernel_rfl)) ?_
                      try go_wp2
                      go_meet
                      case rel => exact ⟨_, (!t202), (by first | rfl | (simp; done) | (simp [*]; done)), H', ⟨by have := HJ10.out; have := HJ46.out; first | omega | exact Nat.le_refl _⟩, ⟨by (with_reducible repeat (first | apply Kd.R_alloc | apply Kd.R_drewN | apply Kd.R_drew)); exact Kd.R_mono HO_7.out (fun _ hk => hk.1.1.2)⟩, ⟨by (with_reducible repeat (first | apply Kd.R_alloc | apply Kd.R_drewN | apply Kd.R_drew)); exact Kd.R_mono HO190.out (fun _ hk => hk.1.1.2)⟩, ⟨by (with_reducible repeat (first | refine blk_drewN ?_ _ | refine blk_drew ?_ | refine blk_alloc ?_ _)); exact BK180.out⟩, ⟨by (with_reducible repeat (first | refine blk_drewN ?_ _ | refine blk_drew ?_ | refine blk_alloc ?_ _)); exact BK181.out⟩, ⟨by (with_reducible repeat (first | refine blk_drewN ?_ _ | refine blk_drew ?_ | refine blk_alloc ?_ _)); exact BK186.out⟩, ⟨by (with_reducible repeat (first | refine blk_drewN ?_ _ | refine blk_drew ?_ | refine blk_alloc ?_ _)); exact BK187.out⟩, ⟨by repeat (first | (with_reducible first | exact HB.out | apply below_alloc | apply pw_below_drewN | apply below_drew1 | refine below_set ?_ GE180.out | refine below_set ?_ GE181.out | refine below_set ?_ GE186.out | refine below_set ?_ GE187.out) | exact HB.out)⟩⟩
                    · rw [if_neg c67] at H
                      exact absurd H (by simp)
                  · rw [if_neg c66] at H
                    exact absurd H (by simp)
                · replace c65 := Bool.eq_false_iff.mpr c65
                  subst c65
                  have H1 : (dovecotelaw07_ChainPrunes.j2 kj46 t183 t188 true x187000_46 x187001_46) = some r := by rw [if_neg (show ¬ (false = true) by decide)] at H; exact H
                  clear H
                  have H := H1
                  clear H1
                  have H' := Aside0.mk H
                  clear H
                  try go_wp2
                  have n0_ := Aside0.mk (Kd.R_drew HO_7.out)
                  have n1_ := Aside0.mk (Kd.R_drew HO190.out)
                  have n2_ := Aside0.mk (blk_drew BK180.out)
                  have n3_ := Aside0.mk (blk_drew BK181.out)
                  have n4_ := Aside0.mk (blk_drew BK186.out)
                  have n5_ := Aside0.mk (blk_drew BK187.out)
                  have n6_ := Aside0.mk (below_drew1 HB.out)
                  clear HO_7
                  clear HO190
                  clear BK180
                  clear BK181
                  clear BK186
                  clear BK187
                  clear HB
                  have HO_7 := n0_
                  have HO190 := n1_
                  have BK180 := n2_
                  have BK181 := n3_
                  have BK186 := n4_
                  have BK187 := n5_
                  have HB := n6_
                  clear n0_ n1_ n2_ n3_ n4_ n5_ n6_
                  obtain ⟨Ao77, co77, eo77⟩ := Kd.R_slice HO190.out
                  (first | subst eo77 | (injection eo77 with f1_ f2_ f3_; have f4_ := f1_.symm; have f5_ := f3_.symm; clear f1_ f2_ f3_; subst f4_; subst f5_))
                  refine start_ (n := 17) (S := fun w' => w'.cell? ⟨gb187, 0, none⟩ = some (.int .u64 x188000_46) ∧ w'.cell? ⟨gb187, 1, none⟩ = some (.int .u32 x188001_46)) (ds := []) #[false, false, false, false, false, false, false, false, false, false, false, false, false, false, false, false, false] (by kernel_rfl) rfl rfl ⟨(blk_cell BK187.out 0).trans rfl, (blk_cell BK187.out 1).trans rfl⟩ (fun hHeld => ?_); refine with_tabW dovecotelaw07_ChainPrunes.tab10 dovecotelaw07_ChainPrunes.bits10 (fun HT_ HW_ => ?_)
                  generalize w61.drew = w76 at HO_7 HO190 BK180 BK181 BK186 BK187 HB hHeld ⊢
                  refine pure_ (i := 0) (N := some 49) (v := ?_) (a' := ?_) #[true, false, false, false, false, false, false, false, false, false, false, false, false, false, false, false, false] rfl rfl (any_of HT_.out (by kernel_rfl)) (fun _ _ _ h => h) (Or.inl ⟨by rfl, ?_⟩) ?_ ?_
                  rotate_left
                  · intro w'
                    go_simp
                    with_reducible rfl
                  rotate_left
                  · simp only [Act.put, List.setIfInBounds_toArray, List.set_cons_zero, List.set_cons_succ, i64_w, i32_w]
                    rfl
                  refine pure_ (i := 3) (N := some 52) (v := ?_) (a' := ?_) #[true, false, false, true, false, false, false, false, false, false, false, false, false, false, false, false, false] rfl rfl (any_of HT_.out (by kernel_rfl)) (fun _ _ _ h => h) (Or.inl ⟨by rfl, ?_⟩) ?_ ?_
                  rotate_left
                  · intro w'
                    go_simp
                    with_reducible rfl
                  rotate_left
                  · simp only [Act.put, List.setIfInBounds_toArray, List.set_cons_zero, List.set_cons_succ, i64_w, i32_w]
                    rfl
                  refine take_ (i := 1) (N := some 50) (v := ?_) (a' := ?_) #[true, true, false, true, false, false, false, false, false, false, false, false, false, false, false, false, false] rfl rfl (take_ofW HT_.out HW_.out (by kernel_rfl)) (fun _ _ _ h => h) (Or.inl ⟨by rfl, ?_⟩) hHeld ?_ ?_
                  rotate_left
                  · rintro w' ⟨s0, s1⟩
                    go_simp
                    with_reducible rfl
                  rotate_left
                  · simp only [Act.put, List.setIfInBounds_toArray, List.set_cons_zero, List.set_cons_succ, i64_w, i32_w]
                    rfl
                  refine take_ (i := 4) (N := some 53) (v := ?_) (a' := ?_) #[true, true, false, true, true, false, false, false, false, false, false, false, false, false, false, false, false] rfl rfl (take_ofW HT_.out HW_.out (by kernel_rfl)) (fun _ _ _ h => h) (Or.inl ⟨by rfl, ?_⟩) hHeld ?_ ?_
                  rotate_left
                  · rintro w' ⟨s0, s1⟩
                    go_simp
                    with_reducible rfl
                  rotate_left
                  · simp only [Act.put, List.setIfInBounds_toArray, List.set_cons_zero, List.set_cons_succ, i64_w, i32_w]
                    rfl
                  refine one_ (i := 2) (N := some 51) #[true, true, true, true, true, false, false, false, false, false, false, false, false, false, false, false, false] rfl rfl (one_of HT_.out (by kernel_rfl)) (by decide) (fun K hK => ?_)
                  refine goes_ Try.func18 (by kernel_rfl) rfl #[.slice Ao77 t188.length co77, .agg #[.int .u64 x188000_46, .int .u32 x188001_46]] (by rfl) rfl rfl (by (try simp only [List.map_toArray, List.map_cons, List.map_nil]); first | done | rfl | (simp only [List.length_drop, List.length_take]; rfl)) ?_
                  with_reducible refine (chain_Prune.calls kj46 _ _ t188 x188000_46 x188001_46 t191 _ ?side1 ?side2 A62.out).mono ?_
                  (case side1 => repeat (first | exact (Kd.R_reads' HO190.out).2.2 | (with_reducible refine Kd.C_alloc ?_ _) | (with_reducible refine Kd.C_drewN ?_ _) | (with_reducible refine Kd.C_drew ?_)))
                  (case side2 => exact (Kd.R_reads' HO190.out).2.1)
                  rintro e w78 ⟨v192, rfl, ho0, hb⟩
                  refine ⟨_, rfl, ?_⟩
                  have n0_ := Aside0.mk (Kd.R_elder' (by (with_reducible repeat (first | apply Kd.R_alloc | apply Kd.R_drewN | apply Kd.R_drew)); exact HO_7.out) (Kd.R_base ho0) hb)
                  have n1_ := Aside0.mk (Kd.R_elder' (by (with_reducible repeat (first | apply Kd.R_alloc | apply Kd.R_drewN | apply Kd.R_drew)); exact HO190.out) (Kd.R_base ho0) hb)
                  have n2_ := Aside0.mk (Kd.R_lower (Kd.R_new' (Kd.R_new' ho0 (Kd.R_lt (by (with_reducible repeat (first | apply Kd.R_alloc | apply Kd.R_drewN | apply Kd.R_drew)); exact HO_7.out))) (Kd.R_lt (by (with_reducible repeat (first | apply Kd.R_alloc | apply Kd.R_drewN | apply Kd.R_drew)); exact HO190.out))) (below_size (by repeat (first | (with_reducible first | exact HB.out | apply below_alloc | apply pw_below_drewN | apply below_drew1 | refine below_set ?_ GE180.out | refine below_set ?_ GE181.out | refine below_set ?_ GE186.out | refine below_set ?_ GE187.out) | exact HB.out))))
                  have n3_ := Aside0.mk (blk_below (g := gb180) (o := .cells #[.int .u64 a1_0, .int .u32 a1_1] 27 (0, 0)) (by (with_reducible repeat (first | refine blk_drewN ?_ _ | refine blk_drew ?_ | refine blk_alloc ?_ _)); exact BK180.out) hb)
                  have n4_ := Aside0.mk (blk_below (g := gb181) (o := .cells #[.int .u64 a2_0, .int .u32 a2_1] 27 (0, 0)) (by (with_reducible repeat (first | refine blk_drewN ?_ _ | refine blk_drew ?_ | refine blk_alloc ?_ _)); exact BK181.out) hb)
                  have n5_ := Aside0.mk (blk_below (g := gb186) (o := .cells #[.int .u64 x187000_46, .int .u32 x187001_46] 27 (0, 0)) (by (with_reducible repeat (first | refine blk_drewN ?_ _ | refine blk_drew ?_ | refine blk_alloc ?_ _)); exact BK186.out) hb)
                  have n6_ := Aside0.mk (blk_below (g := gb187) (o := .cells #[.int .u64 x188000_46, .int .u32 x188001_46] 27 (0, 0)) (by (with_reducible repeat (first | refine blk_drewN ?_ _ | refine blk_drew ?_ | refine blk_alloc ?_ _)); exact BK187.out) hb)
                  have n7_ := Aside0.mk (below_step (by repeat (first | (with_reducible first | exact HB.out | apply below_alloc | apply pw_below_drewN | apply below_drew1 | refine below_set ?_ GE180.out | refine below_set ?_ GE181.out | refine below_set ?_ GE186.out | refine below_set ?_ GE187.out) | exact HB.out)) hb)
                  clear HO_7
                  clear HO190
                  clear BK180
                  clear BK181
                  clear BK186
                  clear BK187
                  clear HB
                  have HO_7 := n0_
                  have HO190 := n1_
                  have HO193 := n2_
                  have BK180 := n3_
                  have BK181 := n4_
                  have BK186 := n5_
                  have BK187 := n6_
                  have HB := n7_
                  clear n0_ n1_ n2_ n3_ n4_ n5_ n6_ n7_
                  (try clear hb)
                  (try clear hb2)
                  (try clear hk)
                  (try clear hi)
                  (try clear ho0)
                  refine hK.out _ _ ⟨(blk_cell BK187.out 0).trans rfl, (blk_cell BK187.out 1).trans rfl⟩ (fun hHeld => ?_)
                  clear hK K
                  refine norm_ (a' := ?_) ?_ ?_
                  rotate_left
                  · show Act.put _ (some 51) _ = _
                    simp only [Act.put, List.setIfInBounds_toArray, List.set_cons_zero, List.set_cons_succ, i64_w, i32_w]
                    rfl
                  refine one_ (i := 5) (N := some 54) #[true, true, true, true, true, true, false, false, false, false, false, false, false, false, false, false, false] rfl rfl (one_of HT_.out (by kernel_rfl)) (by decide) (fun K hK => ?_)
                  refine goes_ Try.func18 (by kernel_rfl) rfl #[.slice Ao60 t183.length co60, .agg #[.int .u64 x188000_46, .int .u32 x188001_46]] (by rfl) rfl rfl (by (try simp only [List.map_toArray, List.map_cons, List.map_nil]); first | done | rfl | (simp only [List.length_drop, List.length_take]; rfl)) ?_
                  with_reducible refine (chain_Prune.calls kj46 _ _ t183 x188000_46 x188001_46 t194 _ ?side1 ?side2 A63.out).mono ?_
                  (case side1 => repeat (first | exact (Kd.R_reads' HO_7.out).2.2 | (with_reducible refine Kd.C_alloc ?_ _) | (with_reducible refine Kd.C_drewN ?_ _) | (with_reducible refine Kd.C_drew ?_)))
                  (case side2 => exact (Kd.R_reads' HO_7.out).2.1)
                  rintro e w79 ⟨v195, rfl, ho0, hb⟩
                  refine ⟨_, rfl, ?_⟩
                  have n0_ := Aside0.mk (Kd.R_elder' (by (with_reducible repeat (first | apply Kd.R_alloc | apply Kd.R_drewN | apply Kd.R_drew)); exact HO_7.out) (Kd.R_base ho0) hb)
                  have n1_ := Aside0.mk (Kd.R_elder' (by (with_reducible repeat (first | apply Kd.R_alloc | apply Kd.R_drewN | apply Kd.R_drew)); exact HO190.out) (Kd.R_base ho0) hb)
                  have n2_ := Aside0.mk (Kd.R_elder' (by (with_reducible repeat (first | apply Kd.R_alloc | apply Kd.R_drewN | apply Kd.R_drew)); exact HO193.out) (Kd.R_base ho0) hb)
                  have n3_ := Aside0.mk (Kd.R_lower (Kd.R_new' (Kd.R_new' (Kd.R_new' ho0 (Kd.R_lt (by (with_reducible repeat (first | apply Kd.R_alloc | apply Kd.R_drewN | apply Kd.R_drew)); exact HO_7.out))) (Kd.R_lt (by (with_reducible repeat (first | apply Kd.R_alloc | apply Kd.R_drewN | apply Kd.R_drew)); exact HO190.out))) (Kd.R_lt (by (with_reducible repeat (first | apply Kd.R_alloc | apply Kd.R_drewN | apply Kd.R_drew)); exact HO193.out))) (below_size (by repeat (first | (with_reducible first | exact HB.out | apply below_alloc | apply pw_below_drewN | apply below_drew1 | refine below_set ?_ GE180.out | refine below_set ?_ GE181.out | refine below_set ?_ GE186.out | refine below_set ?_ GE187.out) | exact HB.out))))
                  have n4_ := Aside0.mk (blk_below (g := gb180) (o := .cells #[.int .u64 a1_0, .int .u32 a1_1] 27 (0, 0)) (by (with_reducible repeat (first | refine blk_drewN ?_ _ | refine blk_drew ?_ | refine blk_alloc ?_ _)); exact BK180.out) hb)
                  have n5_ := Aside0.mk (blk_below (g := gb181) (o := .cells #[.int .u64 a2_0, .int .u32 a2_1] 27 (0, 0)) (by (with_reducible repeat (first | refine blk_drewN ?_ _ | refine blk_drew ?_ | refine blk_alloc ?_ _)); exact BK181.out) hb)
                  have n6_ := Aside0.mk (blk_below (g := gb186) (o := .cells #[.int .u64 x187000_46, .int .u32 x187001_46] 27 (0, 0)) (by (with_reducible repeat (first | refine blk_drewN ?_ _ | refine blk_drew ?_ | refine blk_alloc ?_ _)); exact BK186.out) hb)
                  have n7_ := Aside0.mk (blk_below (g := gb187) (o := .cells #[.int .u64 x188000_46, .int .u32 x188001_46] 27 (0, 0)) (by (with_reducible repeat (first | refine blk_drewN ?_ _ | refine blk_drew ?_ | refine blk_alloc ?_ _)); exact BK187.out) hb)
                  have n8_ := Aside0.mk (below_step (by repeat (first | (with_reducible first | exact HB.out | apply below_alloc | apply pw_below_drewN | apply below_drew1 | refine below_set ?_ GE180.out | refine below_set ?_ GE181.out | refine below_set ?_ GE186.out | refine below_set ?_ GE187.out) | exact HB.out)) hb)
                  clear HO_7
                  clear HO190
                  clear HO193
                  clear BK180
                  clear BK181
                  clear BK186
                  clear BK187
                  clear HB
                  have HO_7 := n0_
                  have HO190 := n1_
                  have HO193 := n2_
                  have HO196 := n3_
                  have BK180 := n4_
                  have BK181 := n5_
                  have BK186 := n6_
                  have BK187 := n7_
                  have HB := n8_
                  clear n0_ n1_ n2_ n3_ n4_ n5_ n6_ n7_ n8_
                  (try clear hb)
                  (try clear hb2)
                  (try clear hk)
                  (try clear hi)
                  (try clear ho0)
                  obtain ⟨Ao80, co80, eo80⟩ := Kd.R_slice HO193.out
                  (first | subst eo80 | (injection eo80 with f1_ f2_ f3_; have f4_ := f1_.symm; have f5_ := f3_.symm; clear f1_ f2_ f3_; subst f4_; subst f5_))
                  obtain ⟨Ao81, co81, eo81⟩ := Kd.R_slice HO196.out
                  (first | subst eo81 | (injection eo81 with f1_ f2_ f3_; have f4_ := f1_.symm; have f5_ := f3_.symm; clear f1_ f2_ f3_; subst f4_; subst f5_))
                  refine hK.out _ _ ⟨(blk_cell BK187.out 0).trans rfl, (blk_cell BK187.out 1).trans rfl⟩ (fun hHeld => ?_)
                  clear hK K
                  refine norm_ (a' := ?_) ?_ ?_
                  rotate_left
                  · show Act.put _ (some 54) _ = _
                    simp only [Act.put, List.setIfInBounds_toArray, List.set_cons_zero, List.set_cons_succ, i64_w, i32_w]
                    rfl
                  refine one_ (i := 6) (N := some 55) #[true, true, true, true, true, true, true, false, false, false, false, false, false, false, false, false, false] rfl rfl (one_of HT_.out (by kernel_rfl)) (by decide) (fun K hK => ?_)
                  refine goes_ Try.func14 (by kernel_rfl) rfl #[.slice Ao80 t191.length co80, .slice Ao81 t194.length co81] (by rfl) rfl rfl (by (try simp only [List.map_toArray, List.map_cons, List.map_nil]); first | done | rfl | (simp only [List.length_drop, List.length_take]; rfl)) ?_
                  with_reducible refine (dovecoteref07_Same.calls kj46 _ _ t191 _ _ t194 false _ ?side1 ?side2 ?side3 ?side4 A64.out).mono ?_
                  (case side1 => repeat (first | exact (Kd.R_reads' HO193.out).2.2 | (with_reducible refine Kd.C_alloc ?_ _) | (with_reducible refine Kd.C_drewN ?_ _) | (with_reducible refine Kd.C_drew ?_)))
                  (case side2 => exact (Kd.R_reads' HO193.out).2.1)
                  (case side3 => repeat (first | exact (Kd.R_reads' HO196.out).2.2 | (with_reducible refine Kd.C_alloc ?_ _) | (with_reducible refine Kd.C_drewN ?_ _) | (with_reducible refine Kd.C_drew ?_)))
                  (case side4 => exact (Kd.R_reads' HO196.out).2.1)
                  rintro e w' ⟨rfl, ⟨nd, rfl⟩⟩
                  refine ⟨_, rfl, ?_⟩
                  refine hK.out _ _ ⟨(blk_cell BK187.out 0).trans rfl, (blk_cell BK187.out 1).trans rfl⟩ (fun hHeld => ?_)
                  clear hK K
                  refine norm_ (a' := ?_) ?_ ?_
                  rotate_left
                  · show Act.put _ (some 55) _ = _
                    simp only [Act.put, List.setIfInBounds_toArray, List.set_cons_zero, List.set_cons_succ, i64_w, i32_w]
                    rfl
                  refine pure_ (i := 7) (N := some 56) (v := ?_) (a' := ?_) #[true, true, true, true, true, true, true, true, false, false, false, false, false, false, false, false, false] rfl rfl (any_of HT_.out (by kernel_rfl)) (fun _ _ _ h => h) (Or.inl ⟨by rfl, ?_⟩) ?_ ?_
                  rotate_left
                  · intro w'
                    go_simp
                    with_reducible rfl
                  rotate_left
                  · simp only [Act.put, List.setIfInBounds_toArray, List.set_cons_zero, List.set_cons_succ, i64_w, i32_w]
                    rfl
                  refine pure_ (i := 8) (N := some 57) (v := ?_) (a' := ?_) #[true, true, true, true, true, true, true, true, true, false, false, false, false, false, false, false, false] rfl rfl (any_of HT_.out (by kernel_rfl)) (fun _ _ _ h => h) (Or.inl ⟨by rfl, ?_⟩) ?_ ?_
                  rotate_left
                  · intro w'
                    go_simp
                    with_reducible rfl
                  rotate_left
                  · simp only [Act.put, List.setIfInBounds_toArray, List.set_cons_zero, List.set_cons_succ, i64_w, i32_w]
                    rfl
                  refine pure_ (i := 9) (N := some 58) (v := undef) (a' := ?_) #[true, true, true, true, true, true, true, true, true, true, false, false, false, false, false, false, false] rfl rfl (any_of HT_.out (by kernel_rfl)) (fun _ _ _ h => h) (Or.inr ⟨by rfl, rfl⟩) ?_ ?_
                  rotate_left
                  · simp only [Act.put, List.setIfInBounds_toArray, List.set_cons_zero, List.set_cons_succ, i64_w, i32_w]
                    rfl
                  refine pure_ (i := 10) (N := some 59) (v := undef) (a' := ?_) #[true, true, true, true, true, true, true, true, true, true, true, false, false, false, false, false, false] rfl rfl (any_of HT_.out (by kernel_rfl)) (fun _ _ _ h => h) (Or.inr ⟨by rfl, rfl⟩) ?_ ?_
                  rotate_left
                  · simp only [Act.put, List.setIfInBounds_toArray, List.set_cons_zero, List.set_cons_succ, i64_w, i32_w]
                    rfl
                  refine pure_ (i := 11) (N := some 60) (v := undef) (a' := ?_) #[true, true, true, true, true, true, true, true, true, true, true, true, false, false, false, false, false] rfl rfl (any_of HT_.out (by kernel_rfl)) (fun _ _ _ h => h) (Or.inr ⟨by rfl, rfl⟩) ?_ ?_
                  rotate_left
                  · simp only [Act.put, List.setIfInBounds_toArray, List.set_cons_zero, List.set_cons_succ, i64_w, i32_w]
                    rfl
                  refine pure_ (i := 12) (N := some 61) (v := undef) (a' := ?_) #[true, true, true, true, true, true, true, true, true, true, true, true, true, false, false, false, false] rfl rfl (any_of HT_.out (by kernel_rfl)) (fun _ _ _ h => h) (Or.inr ⟨by rfl, rfl⟩) ?_ ?_
                  rotate_left
                  · simp only [Act.put, List.setIfInBounds_toArray, List.set_cons_zero, List.set_cons_succ, i64_w, i32_w]
                    rfl
                  refine pure_ (i := 13) (N := some 62) (v := undef) (a' := ?_) #[true, true, true, true, true, true, true, true, true, true, true, true, true, true, false, false, false] rfl rfl (any_of HT_.out (by kernel_rfl)) (fun _ _ _ h => h) (Or.inr ⟨by rfl, rfl⟩) ?_ ?_
                  rotate_left
                  · simp only [Act.put, List.setIfInBounds_toArray, List.set_cons_zero, List.set_cons_succ, i64_w, i32_w]
                    rfl
                  refine pure_ (i := 14) (N := some 63) (v := undef) (a' := ?_) #[true, true, true, true, true, true, true, true, true, true, true, true, true, true, true, false, false] rfl rfl (any_of HT_.out (by kernel_rfl)) (fun _ _ _ h => h) (Or.inr ⟨by rfl, rfl⟩) ?_ ?_
                  rotate_left
                  · simp only [Act.put, List.setIfInBounds_toArray, List.set_cons_zero, List.set_cons_succ, i64_w, i32_w]
                    rfl
                  refine pure_ (i := 15) (N := some 64) (v := undef) (a' := ?_) #[true, true, true, true, true, true, true, true, true, true, true, true, true, true, true, true, false] rfl rfl (any_of HT_.out (by kernel_rfl)) (fun _ _ _ h => h) (Or.inr ⟨by rfl, rfl⟩) ?_ ?_
                  rotate_left
                  · simp only [Act.put, List.setIfInBounds_toArray, List.set_cons_zero, List.set_cons_succ, i64_w, i32_w]
                    rfl
                  refine pure_ (i := 16) (N := some 65) (v := ?_) (a' := ?_) #[true, true, true, true, true, true, true, true, true, true, true, true, true, true, true, true, true] rfl rfl (any_of HT_.out (by kernel_rfl)) (fun _ _ _ h => h) (Or.inl ⟨by rfl, ?_⟩) ?_ ?_
                  rotate_left
                  · intro w'
                    go_simp
                    with_reducible rfl
                  rotate_left
                  · simp only [Act.put, List.setIfInBounds_toArray, List.set_cons_zero, List.set_cons_succ, i64_w, i32_w]
                    rfl
                  refine done_ (done_of HT_.out (by kernel_rfl)) ?_
                  try go_wp2
                  go_meet
                  case rel => exact ⟨_, (true), (by first | rfl | (simp; done) | (simp [*]; done)), H', ⟨by have := HJ10.out; have := HJ46.out; first | omega | exact Nat.le_refl _⟩, ⟨by (with_reducible repeat (first | apply Kd.R_alloc | apply Kd.R_drewN | apply Kd.R_drew)); exact Kd.R_mono HO_7.out (fun _ hk => hk.1.1.2)⟩, ⟨by (with_reducible repeat (first | apply Kd.R_alloc | apply Kd.R_drewN | apply Kd.R_drew)); exact Kd.R_mono HO190.out (fun _ hk => hk.1.1.2)⟩, ⟨by (with_reducible repeat (first | refine blk_drewN ?_ _ | refine blk_drew ?_ | refine blk_alloc ?_ _)); exact BK180.out⟩, ⟨by (with_reducible repeat (first | refine blk_drewN ?_ _ | refine blk_drew ?_ | refine blk_alloc ?_ _)); exact BK181.out⟩, ⟨by (with_reducible repeat (first | refine blk_drewN ?_ _ | refine blk_drew ?_ | refine blk_alloc ?_ _)); exact BK186.out⟩, ⟨by (with_reducible repeat (first | refine blk_drewN ?_ _ | refine blk_drew ?_ | refine blk_alloc ?_ _)); exact BK187.out⟩, ⟨by repeat (first | (with_reducible first | exact HB.out | apply below_alloc | apply pw_below_drewN | apply below_drew1 | refine below_set ?_ GE180.out | refine below_set ?_ GE181.out | refine below_set ?_ GE186.out | refine below_set ?_ GE187.out) | exact HB.out)⟩⟩
              case rest =>
                clear HC55
                try clear c1
                try clear p2
                try clear c5
                try clear c6
                try clear q7
                try clear c14
                try clear c18
                try clear c56
                try clear c57
                try clear c58
                try clear c65
                try clear c66
                try clear c66b0
                try clear c66b1
                try clear c67
                try clear c67b0
                try clear c67b1
                try clear q75
                try clear hcz59_0
                try clear hcz59_1
                try clear hfz28_1
                try clear hfz31_0
                try clear hfz31_1
                try clear hfz36_0
                try clear hfz36_1
                try clear hfz39_0
                try clear hfz39_1
                try clear hfz43_0
                try clear hfz43_1
                try clear hfz46_0
                try clear hfz46_1
                try clear hfz59_0
                try clear hfz59_1
                try clear p2
                try clear q75
                obtain ⟨kq, x65_54, rfl, HA, HJ54, HO_7, HO_10, BK180, BK181, BK186, BK187, HB⟩ := hcut
                cases kq with
                | zero => exact absurd HA.out (by simp [dovecotelaw07_ChainPrunes.j2])
                | succ kj54 =>
                  have H := HA.out
                  clear HA
                  simp only [dovecotelaw07_ChainPrunes.j2] at H
                  by_cases c82 : x65_54 = true
                  · subst c82
                    have H1 : (some false) = some r := by rw [if_pos rfl] at H; exact H
                    clear H
                    have H := H1
                    clear H1
                    obtain rfl := Option.some.inj H
                    go_wp2
                    go_ret
                    exact ⟨by first | rfl | (simp [errW_none, errW_some] <;> rfl) | (simp [*, errW_none, errW_some] <;> rfl), by repeat (first | (with_reducible first | exact HB.out | apply below_alloc | apply pw_below_drewN | apply below_drew1 | refine below_set ?_ GE180.out | refine below_set ?_ GE181.out | refine below_set ?_ GE186.out | refine below_set ?_ GE187.out) | exact HB.out)⟩
                  · replace c82 := Bool.eq_false_iff.mpr c82
                    subst c82
                    have H1 : ((chain_Put.f kj54 t188 281474976710656 4095 0 0 (⟨#[110, 101, 119]⟩ : ByteArray) false).bind fun bt204 => ((chain_Put.f kj54 t183 281474976710656 4095 0 0 (⟨#[110, 101, 119]⟩ : ByteArray) false).bind fun bt208 => (if bt204.2 = 0 then (dovecotelaw07_ChainPrunes.j3 kj54 t183 bt204.1 bt204.2 bt208.1 bt208.2 (bt208.2 != 0) x187000_46 x187001_46 281474976710656 4095 0 0 (⟨#[110, 101, 119]⟩ : ByteArray) false) else (dovecotelaw07_ChainPrunes.j3 kj54 t183 bt204.1 bt204.2 bt208.1 bt208.2 true x187000_46 x187001_46 281474976710656 4095 0 0 (⟨#[110, 101, 119]⟩ : ByteArray) false)))) = some r := by rw [if_neg (show ¬ (false = true) by decide)] at H; exact H
                    clear H
                    have H := H1
                    clear H1
                    replace H := Option.bind_eq_some_iff.mp H
                    obtain ⟨⟨t204, t207⟩, A830, H⟩ := H
                    replace H : ((chain_Put.f kj54 t183 281474976710656 4095 0 0 (⟨#[110, 101, 119]⟩ : ByteArray) false).bind fun bt208 => (if t207 = 0 then (dovecotelaw07_ChainPrunes.j3 kj54 t183 t204 t207 bt208.1 bt208.2 (bt208.2 != 0) x187000_46 x187001_46 281474976710656 4095 0 0 (⟨#[110, 101, 119]⟩ : ByteArray) false) else (dovecotelaw07_ChainPrunes.j3 kj54 t183 t204 t207 bt208.1 bt208.2 true x187000_46 x187001_46 281474976710656 4095 0 0 (⟨#[110, 101, 119]⟩ : ByteArray) false))) = some r := H
                    have A83 := Aside0.mk A830
                    clear A830
                    replace H := Option.bind_eq_some_iff.mp H
                    obtain ⟨⟨t208, t211⟩, A840, H⟩ := H
                    replace H : (if t207 = 0 then (dovecotelaw07_ChainPrunes.j3 kj54 t183 t204 t207 t208 t211 (t211 != 0) x187000_46 x187001_46 281474976710656 4095 0 0 (⟨#[110, 101, 119]⟩ : ByteArray) false) else (dovecotelaw07_ChainPrunes.j3 kj54 t183 t204 t207 t208 t211 true x187000_46 x187001_46 281474976710656 4095 0 0 (⟨#[110, 101, 119]⟩ : ByteArray) false)) = some r := H
                    have A84 := Aside0.mk A840
                    clear A840
                    have HC85 := Aside0.mk H
                    clear H
                    go_upto_region 15 with (first | ((with_reducible refine gate_dst (N := 11) rfl ?_); (try (refine gate_guard (by rfl) ?_; dsimp only)); refine box_event ?hg (N := 11) ?hd (cs := #[.int .u64 0, .int .u32 0, .int .u32 0, .int .u32 0, .string (⟨#[]⟩ : ByteArray), .bool false]) (t := 31) ?hr ?_; (case hd => rfl); (case hg => rfl); (case hr => first | (go_simp; done) | (go_simp; rfl)); intro gb203 hg w86 hbox hb; have n0_ := Aside0.mk (Kd.R_below (Kd.R_elderB (by (with_reducible repeat (first | apply Kd.R_alloc | apply Kd.R_drewN | apply Kd.R_drew)); exact HO_7.out) gb203 (Nat.le_of_eq hg.symm)) hb); have n1_ := Aside0.mk (Kd.R_below (Kd.R_elderB (by (with_reducible repeat (first | apply Kd.R_alloc | apply Kd.R_drewN | apply Kd.R_drew)); exact HO_10.out) gb203 (Nat.le_of_eq hg.symm)) hb); have n2_ := Aside0.mk (blk_below (g := gb180) (o := .cells #[.int .u64 a1_0, .int .u32 a1_1] 27 (0, 0)) (by (with_reducible repeat (first | refine blk_drewN ?_ _ | refine blk_drew ?_ | refine blk_alloc ?_ _)); exact BK180.out) hb); have n3_ := Aside0.mk (blk_below (g := gb181) (o := .cells #[.int .u64 a2_0, .int .u32 a2_1] 27 (0, 0)) (by (with_reducible repeat (first | refine blk_drewN ?_ _ | refine blk_drew ?_ | refine blk_alloc ?_ _)); exact BK181.out) hb); have n4_ := Aside0.mk (blk_below (g := gb186) (o := .cells #[.int .u64 x187000_46, .int .u32 x187001_46] 27 (0, 0)) (by (with_reducible repeat (first | refine blk_drewN ?_ _ | refine blk_drew ?_ | refine blk_alloc ?_ _)); exact BK186.out) hb); have n5_ := Aside0.mk (blk_below (g := gb187) (o := .cells #[.int .u64 x188000_46, .int .u32 x188001_46] 27 (0, 0)) (by (with_reducible repeat (first | refine blk_drewN ?_ _ | refine blk_drew ?_ | refine blk_alloc ?_ _)); exact BK187.out) hb); have n6_ := Aside0.mk (below_step (by repeat (first | (with_reducible first | exact HB.out | apply below_alloc | apply pw_below_drewN | apply below_drew1 | refine below_set ?_ GE180.out | refine below_set ?_ GE181.out | refine below_set ?_ GE186.out | refine below_set ?_ GE187.out) | exact HB.out)) hb); have n7_ := Aside0.mk (hbox); have n8_ := Aside0.mk ((by rw [hg]; exact (below_size (by repeat (first | (with_reducible first | exact HB.out | apply below_alloc | apply pw_below_drewN | apply below_drew1 | refine below_set ?_ GE180.out | refine below_set ?_ GE181.out | refine below_set ?_ GE186.out | refine below_set ?_ GE187.out) | exact HB.out))) : w.heap.size ≤ gb203)); have n9_ := Aside0.mk ((by rw [hg]; exact (below_size (by repeat (first | (with_reducible first | exact HB.out | apply below_alloc | apply pw_below_drewN | apply below_drew1 | refine below_set ?_ GE180.out | refine below_set ?_ GE181.out | refine below_set ?_ GE186.out | refine below_set ?_ GE187.out) | exact HB.out))) : w.heap.size ≤ gb203)); have n10_ := Aside0.mk ((by rw [hg]; exact Nat.ne_of_lt (blk_lt (g := gb180) (o := .cells #[.int .u64 a1_0, .int .u32 a1_1] 27 (0, 0)) (by (with_reducible repeat (first | refine blk_drewN ?_ _ | refine blk_drew ?_ | refine blk_alloc ?_ _)); exact BK180.out)) : gb180 ≠ gb203)); have n11_ := Aside0.mk ((by rw [hg]; exact Nat.ne_of_gt (blk_lt (g := gb180) (o := .cells #[.int .u64 a1_0, .int .u32 a1_1] 27 (0, 0)) (by (with_reducible repeat (first | refine blk_drewN ?_ _ | refine blk_drew ?_ | refine blk_alloc ?_ _)); exact BK180.out)) : gb203 ≠ gb180)); have n12_ := Aside0.mk ((by rw [hg]; exact Nat.ne_of_lt (blk_lt (g := gb181) (o := .cells #[.int .u64 a2_0, .int .u32 a2_1] 27 (0, 0)) (by (with_reducible repeat (first | refine blk_drewN ?_ _ | refine blk_drew ?_ | refine blk_alloc ?_ _)); exact BK181.out)) : gb181 ≠ gb203)); have n13_ := Aside0.mk ((by rw [hg]; exact Nat.ne_of_gt (blk_lt (g := gb181) (o := .cells #[.int .u64 a2_0, .int .u32 a2_1] 27 (0, 0)) (by (with_reducible repeat (first | refine blk_drewN ?_ _ | refine blk_drew ?_ | refine blk_alloc ?_ _)); exact BK181.out)) : gb203 ≠ gb181)); have n14_ := Aside0.mk ((by rw [hg]; exact Nat.ne_of_lt (blk_lt (g := gb186) (o := .cells #[.int .u64 x187000_46, .int .u32 x187001_46] 27 (0, 0)) (by (with_reducible repeat (first | refine blk_drewN ?_ _ | refine blk_drew ?_ | refine blk_alloc ?_ _)); exact BK186.out)) : gb186 ≠ gb203)); have n15_ := Aside0.mk ((by rw [hg]; exact Nat.ne_of_gt (blk_lt (g := gb186) (o := .cells #[.int .u64 x187000_46, .int .u32 x187001_46] 27 (0, 0)) (by (with_reducible repeat (first | refine blk_drewN ?_ _ | refine blk_drew ?_ | refine blk_alloc ?_ _)); exact BK186.out)) : gb203 ≠ gb186)); have n16_ := Aside0.mk ((by rw [hg]; exact Nat.ne_of_lt (blk_lt (g := gb187) (o := .cells #[.int .u64 x188000_46, .int .u32 x188001_46] 27 (0, 0)) (by (with_reducible repeat (first | refine blk_drewN ?_ _ | refine blk_drew ?_ | refine blk_alloc ?_ _)); exact BK187.out)) : gb187 ≠ gb203)); have n17_ := Aside0.mk ((by rw [hg]; exact Nat.ne_of_gt (blk_lt (g := gb187) (o := .cells #[.int .u64 x188000_46, .int .u32 x188001_46] 27 (0, 0)) (by (with_reducible repeat (first | refine blk_drewN ?_ _ | refine blk_drew ?_ | refine blk_alloc ?_ _)); exact BK187.out)) : gb203 ≠ gb187)); clear HO_7; clear HO_10; clear BK180; clear BK181; clear BK186; clear BK187; clear HB; have HO_7 := n0_; have HO_10 := n1_; have BK180 := n2_; have BK181 := n3_; have BK186 := n4_; have BK187 := n5_; have HB := n6_; have BK203 := n7_; have GW203 := n8_; have GE203 := n9_; have NB180_203 := n10_; have NB203_180 := n11_; have NB181_203 := n12_; have NB203_181 := n13_; have NB186_203 := n14_; have NB203_186 := n15_; have NB187_203 := n16_; have NB203_187 := n17_; clear n0_ n1_ n2_ n3_ n4_ n5_ n6_ n7_ n8_ n9_ n10_ n11_ n12_ n13_ n14_ n15_ n16_ n17_; clear hb hbox hg; have hnb87 := NB203_180.out; have hnc87 := NB180_203.out; have hnb88 := NB203_181.out; have hnc88 := NB181_203.out; have hnb89 := NB203_186.out; have hnc89 := NB186_203.out; have hnb90 := NB203_187.out; have hnc90 := NB187_203.out; have hcz91_0 : w86.cell? ⟨gb203, 0, none⟩ = some (.int .u64 0) := (blk_cell BK203.out 0).trans rfl; have hcz91_1 : w86.cell? ⟨gb203, 1, none⟩ = some (.int .u32 0) := (blk_cell BK203.out 1).trans rfl; have hcz91_2 : w86.cell? ⟨gb203, 2, none⟩ = some (.int .u32 0) := (blk_cell BK203.out 2).trans rfl; have hcz91_3 : w86.cell? ⟨gb203, 3, none⟩ = some (.int .u32 0) := (blk_cell BK203.out 3).trans rfl; have hcz91_4 : w86.cell? ⟨gb203, 4, none⟩ = some (.string (⟨#[]⟩ : ByteArray)) := (blk_cell BK203.out 4).trans rfl; have hcz91_5 : w86.cell? ⟨gb203, 5, none⟩ = some (.bool false) := (blk_cell BK203.out 5).trans rfl; have hfz91_0 := blk_frozen BK203.out 0; have hfz91_1 := blk_frozen BK203.out 1; have hfz91_2 := blk_frozen BK203.out 2; have hfz91_3 := blk_frozen BK203.out 3; have hfz91_4 := blk_frozen BK203.out 4; have hfz91_5 := blk_frozen BK203.out 5; obtain ⟨Ao92, co92, eo92⟩ := Kd.R_slice HO_10.out; subst eo92) | ((with_reducible refine gate_callee (f := 17) rfl ?_); refine goesL_ (some 71) rfl rfl Try.func17 (by kernel_rfl) rfl #[.slice Ao92 t188.length co92, .agg #[.int .u64 281474976710656, .int .u32 4095, .int .u32 0, .int .u32 0, .string (⟨#[110, 101, 119]⟩ : ByteArray), .bool false]] rfl (by (try simp only [List.map_toArray, List.map_cons, List.map_nil]); first | done | rfl | (simp only [List.length_drop, List.length_take]; rfl)) ?_; (with_reducible refine (chain_Put.calls kj54 _ _ t188 281474976710656 4095 0 0 (⟨#[110, 101, 119]⟩ : ByteArray) false t204 t207 _ ?side1 ?side2 A83.out).mono ?_); (case side1 => refine (Kd.R_reads' (e := 31) (base := w.heap.size) (ok := fun k_ => (some k_ ≠ (.slice Ao60 t183.length co60 : Value).ownBlock ∧ k_ ≠ gb203)) (n := t188.length) (c := co92) ?_).2.2; exact (by (with_reducible repeat (first | apply Kd.R_alloc | apply Kd.R_drewN | apply Kd.R_drew)); exact (Kd.R_mono (Kd.R_far (p := ⟨gb203, 5, none⟩) (Kd.R_far (p := ⟨gb203, 4, none⟩) (Kd.R_far (p := ⟨gb203, 3, none⟩) (Kd.R_far (p := ⟨gb203, 2, none⟩) (Kd.R_far (p := ⟨gb203, 1, none⟩) (Kd.R_far (p := ⟨gb203, 0, none⟩) (Kd.R_mono HO_10.out (fun k_ hk => (⟨hk, hk.2⟩ : _ ∧ k_ ≠ gb203))) (fun _ hk => hk.2) (.int .u64 281474976710656)) (fun _ hk => hk.2) (.int .u32 4095)) (fun _ hk => hk.2) (.int .u32 0)) (fun _ hk => hk.2) (.int .u32 0)) (fun _ hk => hk.2) (.string (⟨#[110, 101, 119]⟩ : ByteArray))) (fun _ hk => hk.2) (.bool false)) (fun _ h_ => h_.1)))); (case side2 => exact (Kd.R_reads' HO_10.out).2.1); rintro e w93 ⟨v205, rfl, ho0, hb⟩; refine ⟨_, rfl, ?_⟩; have n0_ := Aside0.mk (Kd.R_elder' (by (with_reducible repeat (first | apply Kd.R_alloc | apply Kd.R_drewN | apply Kd.R_drew)); exact (Kd.R_mono (Kd.R_far (p := ⟨gb203, 5, none⟩) (Kd.R_far (p := ⟨gb203, 4, none⟩) (Kd.R_far (p := ⟨gb203, 3, none⟩) (Kd.R_far (p := ⟨gb203, 2, none⟩) (Kd.R_far (p := ⟨gb203, 1, none⟩) (Kd.R_far (p := ⟨gb203, 0, none⟩) (Kd.R_mono HO_7.out (fun k_ hk => (⟨hk, hk.2⟩ : _ ∧ k_ ≠ gb203))) (fun _ hk => hk.2) (.int .u64 281474976710656)) (fun _ hk => hk.2) (.int .u32 4095)) (fun _ hk => hk.2) (.int .u32 0)) (fun _ hk => hk.2) (.int .u32 0)) (fun _ hk => hk.2) (.string (⟨#[110, 101, 119]⟩ : ByteArray))) (fun _ hk => hk.2) (.bool false)) (fun _ h_ => h_.1))) (Kd.R_base ho0) hb); have n1_ := Aside0.mk (Kd.R_elder' (by (with_reducible repeat (first | apply Kd.R_alloc | apply Kd.R_drewN | apply Kd.R_drew)); exact (Kd.R_mono (Kd.R_far (p := ⟨gb203, 5, none⟩) (Kd.R_far (p := ⟨gb203, 4, none⟩) (Kd.R_far (p := ⟨gb203, 3, none⟩) (Kd.R_far (p := ⟨gb203, 2, none⟩) (Kd.R_far (p := ⟨gb203, 1, none⟩) (Kd.R_far (p := ⟨gb203, 0, none⟩) (Kd.R_mono HO_10.out (fun k_ hk => (⟨hk, hk.2⟩ : _ ∧ k_ ≠ gb203))) (fun _ hk => hk.2) (.int .u64 281474976710656)) (fun _ hk => hk.2) (.int .u32 4095)) (fun _ hk => hk.2) (.int .u32 0)) (fun _ hk => hk.2) (.int .u32 0)) (fun _ hk => hk.2) (.string (⟨#[110, 101, 119]⟩ : ByteArray))) (fun _ hk => hk.2) (.bool false)) (fun _ h_ => h_.1))) (Kd.R_base ho0) hb); have n2_ := Aside0.mk (Kd.R_lower (Kd.R_newB (Kd.R_new' (Kd.R_new' ho0 (Kd.R_lt (by (with_reducible repeat (first | apply Kd.R_alloc | apply Kd.R_drewN | apply Kd.R_drew)); exact (Kd.R_mono (Kd.R_far (p := ⟨gb203, 5, none⟩) (Kd.R_far (p := ⟨gb203, 4, none⟩) (Kd.R_far (p := ⟨gb203, 3, none⟩) (Kd.R_far (p := ⟨gb203, 2, none⟩) (Kd.R_far (p := ⟨gb203, 1, none⟩) (Kd.R_far (p := ⟨gb203, 0, none⟩) (Kd.R_mono HO_7.out (fun k_ hk => (⟨hk, hk.2⟩ : _ ∧ k_ ≠ gb203))) (fun _ hk => hk.2) (.int .u64 281474976710656)) (fun _ hk => hk.2) (.int .u32 4095)) (fun _ hk => hk.2) (.int .u32 0)) (fun _ hk => hk.2) (.int .u32 0)) (fun _ hk => hk.2) (.string (⟨#[110, 101, 119]⟩ : ByteArray))) (fun _ hk => hk.2) (.bool false)) (fun _ h_ => h_.1))))) (Kd.R_lt (by (with_reducible repeat (first | apply Kd.R_alloc | apply Kd.R_drewN | apply Kd.R_drew)); exact (Kd.R_mono (Kd.R_far (p := ⟨gb203, 5, none⟩) (Kd.R_far (p := ⟨gb203, 4, none⟩) (Kd.R_far (p := ⟨gb203, 3, none⟩) (Kd.R_far (p := ⟨gb203, 2, none⟩) (Kd.R_far (p := ⟨gb203, 1, none⟩) (Kd.R_far (p := ⟨gb203, 0, none⟩) (Kd.R_mono HO_10.out (fun k_ hk => (⟨hk, hk.2⟩ : _ ∧ k_ ≠ gb203))) (fun _ hk => hk.2) (.int .u64 281474976710656)) (fun _ hk => hk.2) (.int .u32 4095)) (fun _ hk => hk.2) (.int .u32 0)) (fun _ hk => hk.2) (.int .u32 0)) (fun _ hk => hk.2) (.string (⟨#[110, 101, 119]⟩ : ByteArray))) (fun _ hk => hk.2) (.bool false)) (fun _ h_ => h_.1))))) (g := gb203) (o := .cells #[.int .u64 281474976710656, .int .u32 4095, .int .u32 0, .int .u32 0, .string (⟨#[110, 101, 119]⟩ : ByteArray), .bool false] 31 (0, 0)) (by (with_reducible repeat (first | refine blk_drewN ?_ _ | refine blk_drew ?_ | refine blk_alloc ?_ _)); refine blk_put (cs := #[.int .u64 281474976710656, .int .u32 4095, .int .u32 0, .int .u32 0, .string (⟨#[110, 101, 119]⟩ : ByteArray), .bool false]) ?_ 5 _ rfl; (with_reducible repeat (first | refine blk_drewN ?_ _ | refine blk_drew ?_ | refine blk_alloc ?_ _)); refine blk_put (cs := #[.int .u64 281474976710656, .int .u32 4095, .int .u32 0, .int .u32 0, .string (⟨#[]⟩ : ByteArray), .bool false]) ?_ 4 _ rfl; (with_reducible repeat (first | refine blk_drewN ?_ _ | refine blk_drew ?_ | refine blk_alloc ?_ _)); refine blk_put (cs := #[.int .u64 281474976710656, .int .u32 4095, .int .u32 0, .int .u32 0, .string (⟨#[]⟩ : ByteArray), .bool false]) ?_ 3 _ rfl; (with_reducible repeat (first | refine blk_drewN ?_ _ | refine blk_drew ?_ | refine blk_alloc ?_ _)); refine blk_put (cs := #[.int .u64 281474976710656, .int .u32 4095, .int .u32 0, .int .u32 0, .string (⟨#[]⟩ : ByteArray), .bool false]) ?_ 2 _ rfl; (with_reducible repeat (first | refine blk_drewN ?_ _ | refine blk_drew ?_ | refine blk_alloc ?_ _)); refine blk_put (cs := #[.int .u64 281474976710656, .int .u32 0, .int .u32 0, .int .u32 0, .string (⟨#[]⟩ : ByteArray), .bool false]) ?_ 1 _ rfl; (with_reducible repeat (first | refine blk_drewN ?_ _ | refine blk_drew ?_ | refine blk_alloc ?_ _)); refine blk_put (cs := #[.int .u64 0, .int .u32 0, .int .u32 0, .int .u32 0, .string (⟨#[]⟩ : ByteArray), .bool false]) ?_ 0 _ rfl; (with_reducible repeat (first | refine blk_drewN ?_ _ | refine blk_drew ?_ | refine blk_alloc ?_ _)); exact BK203.out)) (below_size (by repeat (first | (with_reducible first | exact HB.out | apply below_alloc | apply pw_below_drewN | apply below_drew1 | refine below_set ?_ GE180.out | refine below_set ?_ GE181.out | refine below_set ?_ GE186.out | refine below_set ?_ GE187.out | refine below_set ?_ GE203.out) | exact HB.out)))); have n3_ := Aside0.mk (blk_below (g := gb180) (o := .cells #[.int .u64 a1_0, .int .u32 a1_1] 27 (0, 0)) (by (with_reducible repeat (first | refine blk_drewN ?_ _ | refine blk_drew ?_ | refine blk_alloc ?_ _)); refine blk_far ?_ NB180_203.out _; (with_reducible repeat (first | refine blk_drewN ?_ _ | refine blk_drew ?_ | refine blk_alloc ?_ _)); refine blk_far ?_ NB180_203.out _; (with_reducible repeat (first | refine blk_drewN ?_ _ | refine blk_drew ?_ | refine blk_alloc ?_ _)); refine blk_far ?_ NB180_203.out _; (with_reducible repeat (first | refine blk_drewN ?_ _ | refine blk_drew ?_ | refine blk_alloc ?_ _)); refine blk_far ?_ NB180_203.out _; (with_reducible repeat (first | refine blk_drewN ?_ _ | refine blk_drew ?_ | refine blk_alloc ?_ _)); refine blk_far ?_ NB180_203.out _; (with_reducible repeat (first | refine blk_drewN ?_ _ | refine blk_drew ?_ | refine blk_alloc ?_ _)); refine blk_far ?_ NB180_203.out _; (with_reducible repeat (first | refine blk_drewN ?_ _ | refine blk_drew ?_ | refine blk_alloc ?_ _)); exact BK180.out) hb); have n4_ := Aside0.mk (blk_below (g := gb181) (o := .cells #[.int .u64 a2_0, .int .u32 a2_1] 27 (0, 0)) (by (with_reducible repeat (first | refine blk_drewN ?_ _ | refine blk_drew ?_ | refine blk_alloc ?_ _)); refine blk_far ?_ NB181_203.out _; (with_reducible repeat (first | refine blk_drewN ?_ _ | refine blk_drew ?_ | refine blk_alloc ?_ _)); refine blk_far ?_ NB181_203.out _; (with_reducible repeat (first | refine blk_drewN ?_ _ | refine blk_drew ?_ | refine blk_alloc ?_ _)); refine blk_far ?_ NB181_203.out _; (with_reducible repeat (first | refine blk_drewN ?_ _ | refine blk_drew ?_ | refine blk_alloc ?_ _)); refine blk_far ?_ NB181_203.out _; (with_reducible repeat (first | refine blk_drewN ?_ _ | refine blk_drew ?_ | refine blk_alloc ?_ _)); refine blk_far ?_ NB181_203.out _; (with_reducible repeat (first | refine blk_drewN ?_ _ | refine blk_drew ?_ | refine blk_alloc ?_ _)); refine blk_far ?_ NB181_203.out _; (with_reducible repeat (first | refine blk_drewN ?_ _ | refine blk_drew ?_ | refine blk_alloc ?_ _)); exact BK181.out) hb); have n5_ := Aside0.mk (blk_below (g := gb186) (o := .cells #[.int .u64 x187000_46, .int .u32 x187001_46] 27 (0, 0)) (by (with_reducible repeat (first | refine blk_drewN ?_ _ | refine blk_drew ?_ | refine blk_alloc ?_ _)); refine blk_far ?_ NB186_203.out _; (with_reducible repeat (first | refine blk_drewN ?_ _ | refine blk_drew ?_ | refine blk_alloc ?_ _)); refine blk_far ?_ NB186_203.out _; (with_reducible repeat (first | refine blk_drewN ?_ _ | refine blk_drew ?_ | refine blk_alloc ?_ _)); refine blk_far ?_ NB186_203.out _; (with_reducible repeat (first | refine blk_drewN ?_ _ | refine blk_drew ?_ | refine blk_alloc ?_ _)); refine blk_far ?_ NB186_203.out _; (with_reducible repeat (first | refine blk_drewN ?_ _ | refine blk_drew ?_ | refine blk_alloc ?_ _)); refine blk_far ?_ NB186_203.out _; (with_reducible repeat (first | refine blk_drewN ?_ _ | refine blk_drew ?_ | refine blk_alloc ?_ _)); refine blk_far ?_ NB186_203.out _; (with_reducible repeat (first | refine blk_drewN ?_ _ | refine blk_drew ?_ | refine blk_alloc ?_ _)); exact BK186.out) hb); have n6_ := Aside0.mk (blk_below (g := gb187) (o := .cells #[.int .u64 x188000_46, .int .u32 x188001_46] 27 (0, 0)) (by (with_reducible repeat (first | refine blk_drewN ?_ _ | refine blk_drew ?_ | refine blk_alloc ?_ _)); refine blk_far ?_ NB187_203.out _; (with_reducible repeat (first | refine blk_drewN ?_ _ | refine blk_drew ?_ | refine blk_alloc ?_ _)); refine blk_far ?_ NB187_203.out _; (with_reducible repeat (first | refine blk_drewN ?_ _ | refine blk_drew ?_ | refine blk_alloc ?_ _)); refine blk_far ?_ NB187_203.out _; (with_reducible repeat (first | refine blk_drewN ?_ _ | refine blk_drew ?_ | refine blk_alloc ?_ _)); refine blk_far ?_ NB187_203.out _; (with_reducible repeat (first | refine blk_drewN ?_ _ | refine blk_drew ?_ | refine blk_alloc ?_ _)); refine blk_far ?_ NB187_203.out _; (with_reducible repeat (first | refine blk_drewN ?_ _ | refine blk_drew ?_ | refine blk_alloc ?_ _)); refine blk_far ?_ NB187_203.out _; (with_reducible repeat (first | refine blk_drewN ?_ _ | refine blk_drew ?_ | refine blk_alloc ?_ _)); exact BK187.out) hb); have n7_ := Aside0.mk (blk_below (g := gb203) (o := .cells #[.int .u64 281474976710656, .int .u32 4095, .int .u32 0, .int .u32 0, .string (⟨#[110, 101, 119]⟩ : ByteArray), .bool false] 31 (0, 0)) (by (with_reducible repeat (first | refine blk_drewN ?_ _ | refine blk_drew ?_ | refine blk_alloc ?_ _)); refine blk_put (cs := #[.int .u64 281474976710656, .int .u32 4095, .int .u32 0, .int .u32 0, .string (⟨#[110, 101, 119]⟩ : ByteArray), .bool false]) ?_ 5 _ rfl; (with_reducible repeat (first | refine blk_drewN ?_ _ | refine blk_drew ?_ | refine blk_alloc ?_ _)); refine blk_put (cs := #[.int .u64 281474976710656, .int .u32 4095, .int .u32 0, .int .u32 0, .string (⟨#[]⟩ : ByteArray), .bool false]) ?_ 4 _ rfl; (with_reducible repeat (first | refine blk_drewN ?_ _ | refine blk_drew ?_ | refine blk_alloc ?_ _)); refine blk_put (cs := #[.int .u64 281474976710656, .int .u32 4095, .int .u32 0, .int .u32 0, .string (⟨#[]⟩ : ByteArray), .bool false]) ?_ 3 _ rfl; (with_reducible repeat (first | refine blk_drewN ?_ _ | refine blk_drew ?_ | refine blk_alloc ?_ _)); refine blk_put (cs := #[.int .u64 281474976710656, .int .u32 4095, .int .u32 0, .int .u32 0, .string (⟨#[]⟩ : ByteArray), .bool false]) ?_ 2 _ rfl; (with_reducible repeat (first | refine blk_drewN ?_ _ | refine blk_drew ?_ | refine blk_alloc ?_ _)); refine blk_put (cs := #[.int .u64 281474976710656, .int .u32 0, .int .u32 0, .int .u32 0, .string (⟨#[]⟩ : ByteArray), .bool false]) ?_ 1 _ rfl; (with_reducible repeat (first | refine blk_drewN ?_ _ | refine blk_drew ?_ | refine blk_alloc ?_ _)); refine blk_put (cs := #[.int .u64 0, .int .u32 0, .int .u32 0, .int .u32 0, .string (⟨#[]⟩ : ByteArray), .bool false]) ?_ 0 _ rfl; (with_reducible repeat (first | refine blk_drewN ?_ _ | refine blk_drew ?_ | refine blk_alloc ?_ _)); exact BK203.out) hb); have n8_ := Aside0.mk (below_step (by repeat (first | (with_reducible first | exact HB.out | apply below_alloc | apply pw_below_drewN | apply below_drew1 | refine below_set ?_ GE180.out | refine below_set ?_ GE181.out | refine below_set ?_ GE186.out | refine below_set ?_ GE187.out | refine below_set ?_ GE203.out) | exact HB.out)) hb); clear HO_7; clear HO_10; clear BK180; clear BK181; clear BK186; clear BK187; clear BK203; clear HB; have HO_7 := n0_; have HO_10 := n1_; have HO206 := n2_; have BK180 := n3_; have BK181 := n4_; have BK186 := n5_; have BK187 := n6_; have BK203 := n7_; have HB := n8_; clear n0_ n1_ n2_ n3_ n4_ n5_ n6_ n7_ n8_; (try clear hb); (try clear hb2); (try clear hk); (try clear hi); (try clear ho0); have hcz94_0 : w93.cell? ⟨gb203, 0, none⟩ = some (.int .u64 281474976710656) := (blk_cell BK203.out 0).trans rfl; have hcz94_1 : w93.cell? ⟨gb203, 1, none⟩ = some (.int .u32 4095) := (blk_cell BK203.out 1).trans rfl; have hcz94_2 : w93.cell? ⟨gb203, 2, none⟩ = some (.int .u32 0) := (blk_cell BK203.out 2).trans rfl; have hcz94_3 : w93.cell? ⟨gb203, 3, none⟩ = some (.int .u32 0) := (blk_cell BK203.out 3).trans rfl; have hcz94_4 : w93.cell? ⟨gb203, 4, none⟩ = some (.string (⟨#[110, 101, 119]⟩ : ByteArray)) := (blk_cell BK203.out 4).trans rfl; have hcz94_5 : w93.cell? ⟨gb203, 5, none⟩ = some (.bool false) := (blk_cell BK203.out 5).trans rfl; have hfz94_0 := blk_frozen BK203.out 0; have hfz94_1 := blk_frozen BK203.out 1; have hfz94_2 := blk_frozen BK203.out 2; have hfz94_3 := blk_frozen BK203.out 3; have hfz94_4 := blk_frozen BK203.out 4; have hfz94_5 := blk_frozen BK203.out 5) | ((with_reducible refine gate_callee (f := 17) rfl ?_); refine goesL_ (some 77) rfl rfl Try.func17 (by kernel_rfl) rfl #[.slice Ao60 t183.length co60, .agg #[.int .u64 281474976710656, .int .u32 4095, .int .u32 0, .int .u32 0, .string (⟨#[110, 101, 119]⟩ : ByteArray), .bool false]] rfl (by (try simp only [List.map_toArray, List.map_cons, List.map_nil]); first | done | rfl | (simp only [List.length_drop, List.length_take]; rfl)) ?_; (with_reducible refine (chain_Put.calls kj54 _ _ t183 281474976710656 4095 0 0 (⟨#[110, 101, 119]⟩ : ByteArray) false t208 t211 _ ?side1 ?side2 A84.out).mono ?_); (case side1 => repeat (first | exact (Kd.R_reads' HO_7.out).2.2 | (with_reducible refine Kd.C_alloc ?_ _) | (with_reducible refine Kd.C_drewN ?_ _) | (with_reducible refine Kd.C_drew ?_))); (case side2 => exact (Kd.R_reads' HO_7.out).2.1); rintro e w95 ⟨v209, rfl, ho0, hb⟩; refine ⟨_, rfl, ?_⟩; have n0_ := Aside0.mk (Kd.R_elder' (by (with_reducible repeat (first | apply Kd.R_alloc | apply Kd.R_drewN | apply Kd.R_drew)); exact HO_7.out) (Kd.R_base ho0) hb); have n1_ := Aside0.mk (Kd.R_elder' (by (with_reducible repeat (first | apply Kd.R_alloc | apply Kd.R_drewN | apply Kd.R_drew)); exact HO_10.out) (Kd.R_base ho0) hb); have n2_ := Aside0.mk (Kd.R_elder' (by (with_reducible repeat (first | apply Kd.R_alloc | apply Kd.R_drewN | apply Kd.R_drew)); exact HO206.out) (Kd.R_base ho0) hb); have n3_ := Aside0.mk (Kd.R_lower (Kd.R_newB (Kd.R_new' (Kd.R_new' (Kd.R_new' ho0 (Kd.R_lt (by (with_reducible repeat (first | apply Kd.R_alloc | apply Kd.R_drewN | apply Kd.R_drew)); exact HO_7.out))) (Kd.R_lt (by (with_reducible repeat (first | apply Kd.R_alloc | apply Kd.R_drewN | apply Kd.R_drew)); exact HO_10.out))) (Kd.R_lt (by (with_reducible repeat (first | apply Kd.R_alloc | apply Kd.R_drewN | apply Kd.R_drew)); exact HO206.out))) (g := gb203) (o := .cells #[.int .u64 281474976710656, .int .u32 4095, .int .u32 0, .int .u32 0, .string (⟨#[110, 101, 119]⟩ : ByteArray), .bool false] 31 (0, 0)) (by (with_reducible repeat (first | refine blk_drewN ?_ _ | refine blk_drew ?_ | refine blk_alloc ?_ _)); exact BK203.out)) (below_size (by repeat (first | (with_reducible first | exact HB.out | apply below_alloc | apply pw_below_drewN | apply below_drew1 | refine below_set ?_ GE180.out | refine below_set ?_ GE181.out | refine below_set ?_ GE186.out | refine below_set ?_ GE187.out | refine below_set ?_ GE203.out) | exact HB.out)))); have n4_ := Aside0.mk (blk_below (g := gb180) (o := .cells #[.int .u64 a1_0, .int .u32 a1_1] 27 (0, 0)) (by (with_reducible repeat (first | refine blk_drewN ?_ _ | refine blk_drew ?_ | refine blk_alloc ?_ _)); exact BK180.out) hb); have n5_ := Aside0.mk (blk_below (g := gb181) (o := .cells #[.int .u64 a2_0, .int .u32 a2_1] 27 (0, 0)) (by (with_reducible repeat (first | refine blk_drewN ?_ _ | refine blk_drew ?_ | refine blk_alloc ?_ _)); exact BK181.out) hb); have n6_ := Aside0.mk (blk_below (g := gb186) (o := .cells #[.int .u64 x187000_46, .int .u32 x187001_46] 27 (0, 0)) (by (with_reducible repeat (first | refine blk_drewN ?_ _ | refine blk_drew ?_ | refine blk_alloc ?_ _)); exact BK186.out) hb); have n7_ := Aside0.mk (blk_below (g := gb187) (o := .cells #[.int .u64 x188000_46, .int .u32 x188001_46] 27 (0, 0)) (by (with_reducible repeat (first | refine blk_drewN ?_ _ | refine blk_drew ?_ | refine blk_alloc ?_ _)); exact BK187.out) hb); have n8_ := Aside0.mk (blk_below (g := gb203) (o := .cells #[.int .u64 281474976710656, .int .u32 4095, .int .u32 0, .int .u32 0, .string (⟨#[110, 101, 119]⟩ : ByteArray), .bool false] 31 (0, 0)) (by (with_reducible repeat (first | refine blk_drewN ?_ _ | refine blk_drew ?_ | refine blk_alloc ?_ _)); exact BK203.out) hb); have n9_ := Aside0.mk (below_step (by repeat (first | (with_reducible first | exact HB.out | apply below_alloc | apply pw_below_drewN | apply below_drew1 | refine below_set ?_ GE180.out | refine below_set ?_ GE181.out | refine below_set ?_ GE186.out | refine below_set ?_ GE187.out | refine below_set ?_ GE203.out) | exact HB.out)) hb); clear HO_7; clear HO_10; clear HO206; clear BK180; clear BK181; clear BK186; clear BK187; clear BK203; clear HB; have HO_7 := n0_; have HO_10 := n1_; have HO206 := n2_; have HO210 := n3_; have BK180 := n4_; have BK181 := n5_; have BK186 := n6_; have BK187 := n7_; have BK203 := n8_; have HB := n9_; clear n0_ n1_ n2_ n3_ n4_ n5_ n6_ n7_ n8_ n9_; (try clear hb); (try clear hb2); (try clear hk); (try clear hi); (try clear ho0)))
                    (try simp only [Act.put, List.setIfInBounds_toArray, List.set_cons_zero, List.set_cons_succ])
                    go_cut [85] (fun v85 wc => ∃ (kq : Nat) (x85_84 : Bool), v85 = .bool x85_84 ∧ Aside0 (dovecotelaw07_ChainPrunes.j3 kq t183 t204 t207 t208 t211 x85_84 x187000_46 x187001_46 281474976710656 4095 0 0 (⟨#[110, 101, 119]⟩ : ByteArray) false = some r) ∧ Aside0 (kq ≤ kj54) ∧ Aside0 (Kd.R k31 31 wc w.heap.size (fun k_ => some k_ ≠ (v205 : Value).ownBlock ∧ some k_ ≠ (v209 : Value).ownBlock ∧ k_ ≠ gb203) (.slice Ao60 t183.length co60) t183) ∧ Aside0 (Kd.R k31 31 wc w.heap.size (fun k_ => some k_ ≠ ((.slice Ao60 t183.length co60) : Value).ownBlock ∧ some k_ ≠ (v209 : Value).ownBlock ∧ k_ ≠ gb203) v205 t204) ∧ Aside0 (Kd.R k31 31 wc w.heap.size (fun k_ => some k_ ≠ ((.slice Ao60 t183.length co60) : Value).ownBlock ∧ some k_ ≠ (v205 : Value).ownBlock ∧ k_ ≠ gb203) v209 t208) ∧ Aside0 (wc.heap[gb180]? = some (.cells #[.int .u64 a1_0, .int .u32 a1_1] 27 (0, 0))) ∧ Aside0 (wc.heap[gb181]? = some (.cells #[.int .u64 a2_0, .int .u32 a2_1] 27 (0, 0))) ∧ Aside0 (wc.heap[gb186]? = some (.cells #[.int .u64 x187000_46, .int .u32 x187001_46] 27 (0, 0))) ∧ Aside0 (wc.heap[gb187]? = some (.cells #[.int .u64 x188000_46, .int .u32 x188001_46] 27 (0, 0))) ∧ Aside0 (wc.heap[gb203]? = some (.cells #[.int .u64 281474976710656, .int .u32 4095, .int .u32 0, .int .u32 0, .string (⟨#[110, 101, 119]⟩ : ByteArray), .bool false] 31 (0, 0))) ∧ Aside0 (Below w.heap.size w wc))
                    case first =>
                      have H := HC85.out
                      clear HC85
                      by_cases c96 : t207 = 0
                      · rw [if_pos c96] at H
                        have c96b0 : (t207 == 0) = true := beq_iff_eq.mpr c96
                        have c96b1 : (t207 != 0) = false := bne_eq_false_iff_eq.mpr c96
                        clear c96
                        (first | rw [c96b0] | (simp only [i64_w, i32_w]; rw [c96b0]) | skip)
                        have H' := Aside0.mk H
                        clear H
                        go_wp2
                        go_meet
                        case rel => exact ⟨_, ((t211 != 0)), (by first | rfl | (simp; done) | (simp [*]; done)), H', ⟨by have := HJ10.out; have := HJ46.out; have := HJ54.out; first | omega | exact Nat.le_refl _⟩, ⟨by (with_reducible repeat (first | apply Kd.R_alloc | apply Kd.R_drewN | apply Kd.R_drew)); exact Kd.R_mono HO_7.out (fun _ hk => ⟨hk.1.2, ⟨hk.2, hk.1.1.2⟩⟩)⟩, ⟨by (with_reducible repeat (first | apply Kd.R_alloc | apply Kd.R_drewN | apply Kd.R_drew)); exact Kd.R_mono HO206.out (fun _ hk => ⟨hk.1.1.1.2, ⟨hk.2, hk.1.2⟩⟩)⟩, ⟨by (with_reducible repeat (first | apply Kd.R_alloc | apply Kd.R_drewN | apply Kd.R_drew)); exact Kd.R_mono HO210.out (fun _ hk => ⟨hk.1.1.1.2, ⟨hk.1.2, hk.2⟩⟩)⟩, ⟨by (with_reducible repeat (first | refine blk_drewN ?_ _ | refine blk_drew ?_ | refine blk_alloc ?_ _)); exact BK180.out⟩, ⟨by (with_reducible repeat (first | refine blk_drewN ?_ _ | refine blk_drew ?_ | refine blk_alloc ?_ _)); exact BK181.out⟩, ⟨by (with_reducible repeat (first | refine blk_drewN ?_ _ | refine blk_drew ?_ | refine blk_alloc ?_ _)); exact BK186.out⟩, ⟨by (with_reducible repeat (first | refine blk_drewN ?_ _ | refine blk_drew ?_ | refine blk_alloc ?_ _)); exact BK187.out⟩, ⟨by (with_reducible repeat (first | refine blk_drewN ?_ _ | refine blk_drew ?_ | refine blk_alloc ?_ _)); exact BK203.out⟩, ⟨by repeat (first | (with_reducible first | exact HB.out | apply below_alloc | apply pw_below_drewN | apply below_drew1 | refine below_set ?_ GE180.out | refine below_set ?_ GE181.out | refine below_set ?_ GE186.out | refine below_set ?_ GE187.out | refine below_set ?_ GE203.out) | exact HB.out)⟩⟩
                      · rw [if_neg c96] at H
                        have c96b0 : (t207 == 0) = false := beq_eq_false_iff_ne.mpr c96
                        have c96b1 : (t207 != 0) = true := bne_iff_ne.mpr c96
                        (first | rw [c96b0] | (simp only [i64_w, i32_w]; rw [c96b0]) | skip)
                        have H' := Aside0.mk H
                        clear H
                        go_wp2
                        go_meet
                        case rel => exact ⟨_, (true), (by first | rfl | (simp; done) | (simp [*]; done)), H', ⟨by have := HJ10.out; have := HJ46.out; have := HJ54.out; first | omega | exact Nat.le_refl _⟩, ⟨by (with_reducible repeat (first | apply Kd.R_alloc | apply Kd.R_drewN | apply Kd.R_drew)); exact Kd.R_mono HO_7.out (fun _ hk => ⟨hk.1.2, ⟨hk.2, hk.1.1.2⟩⟩)⟩, ⟨by (with_reducible repeat (first | apply Kd.R_alloc | apply Kd.R_drewN | apply Kd.R_drew)); exact Kd.R_mono HO206.out (fun _ hk => ⟨hk.1.1.1.2, ⟨hk.2, hk.1.2⟩⟩)⟩, ⟨by (with_reducible repeat (first | apply Kd.R_alloc | apply Kd.R_drewN | apply Kd.R_drew)); exact Kd.R_mono HO210.out (fun _ hk => ⟨hk.1.1.1.2, ⟨hk.1.2, hk.2⟩⟩)⟩, ⟨by (with_reducible repeat (first | refine blk_drewN ?_ _ | refine blk_drew ?_ | refine blk_alloc ?_ _)); exact BK180.out⟩, ⟨by (with_reducible repeat (first | refine blk_drewN ?_ _ | refine blk_drew ?_ | refine blk_alloc ?_ _)); exact BK181.out⟩, ⟨by (with_reducible repeat (first | refine blk_drewN ?_ _ | refine blk_drew ?_ | refine blk_alloc ?_ _)); exact BK186.out⟩, ⟨by (with_reducible repeat (first | refine blk_drewN ?_ _ | refine blk_drew ?_ | refine blk_alloc ?_ _)); exact BK187.out⟩, ⟨by (with_reducible repeat (first | refine blk_drewN ?_ _ | refine blk_drew ?_ | refine blk_alloc ?_ _)); exact BK203.out⟩, ⟨by repeat (first | (with_reducible first | exact HB.out | apply below_alloc | apply pw_below_drewN | apply below_drew1 | refine below_set ?_ GE180.out | refine below_set ?_ GE181.out | refine below_set ?_ GE186.out | refine below_set ?_ GE187.out | refine below_set ?_ GE203.out) | exact HB.out)⟩⟩
                    case rest =>
                      clear HC85
                      try clear c1
                      try clear p2
                      try clear c5
                      try clear c6
                      try clear q7
                      try clear c8
                      try clear c9
                      try clear c14
                      try clear c17
                      try clear c18
                      try clear c56
                      try clear c57
                      try clear c58
                      try clear c65
                      try clear c66
                      try clear c66b0
                      try clear c66b1
                      try clear c67
                      try clear c67b0
                      try clear c67b1
                      try clear q75
                      try clear c82
                      try clear c87
                      try clear c88
                      try clear c89
                      try clear c90
                      try clear c96
                      try clear c96b0
                      try clear c96b1
                      try clear hcz59_0
                      try clear hcz59_1
                      try clear hcz91_0
                      try clear hcz91_1
                      try clear hcz91_2
                      try clear hcz91_3
                      try clear hcz91_4
                      try clear hcz91_5
                      try clear hcz94_0
                      try clear hcz94_1
                      try clear hcz94_2
                      try clear hcz94_3
                      try clear hcz94_4
                      try clear hcz94_5
                      try clear hfz28_1
                      try clear hfz31_0
                      try clear hfz31_1
                      try clear hfz36_0
                      try clear hfz36_1
                      try clear hfz39_0
                      try clear hfz39_1
                      try clear hfz43_0
                      try clear hfz43_1
                      try clear hfz46_0
                      try clear hfz46_1
                      try clear hfz59_0
                      try clear hfz59_1
                      try clear hfz91_0
                      try clear hfz91_1
                      try clear hfz91_2
                      try clear hfz91_3
                      try clear hfz91_4
                      try clear hfz91_5
                      try clear hfz94_0
                      try clear hfz94_1
                      try clear hfz94_2
                      try clear hfz94_3
                      try clear hfz94_4
                      try clear hfz94_5
                      try clear p2
                      try clear q7
                      try clear q75
                      obtain ⟨kq, x85_84, rfl, HA, HJ84, HO_7, HO_12, HO_14, BK180, BK181, BK186, BK187, BK203, HB⟩ := hcut
                      cases kq with
                      | zero => exact absurd HA.out (by simp [dovecotelaw07_ChainPrunes.j3])
                      | succ kj84 =>
                        have H := HA.out
                        clear HA
                        simp only [dovecotelaw07_ChainPrunes.j3] at H
                        by_cases c97 : x85_84 = true
                        · subst c97
                          have H1 : (if t207 = t211 then (some true) else ((chain_Newest.f kj84 t183).bind fun bt212 => (some (bt212.1 == 281474976710656 && (bt212.2 == 4095))))) = some r := by rw [if_pos rfl] at H; exact H
                          clear H
                          have H := H1
                          clear H1
                          by_cases c98 : t207 = t211
                          · rw [if_pos c98] at H
                            have c98b0 : (t207 == t211) = true := beq_iff_eq.mpr c98
                            have c98b1 : (t207 != t211) = false := bne_eq_false_iff_eq.mpr c98
                            clear c98
                            obtain rfl := Option.some.inj H
                            try go_wp2
                            have n0_ := Aside0.mk (Kd.R_drew HO_7.out)
                            have n1_ := Aside0.mk (Kd.R_drew HO_12.out)
                            have n2_ := Aside0.mk (Kd.R_drew HO_14.out)
                            have n3_ := Aside0.mk (blk_drew BK180.out)
                            have n4_ := Aside0.mk (blk_drew BK181.out)
                            have n5_ := Aside0.mk (blk_drew BK186.out)
                            have n6_ := Aside0.mk (blk_drew BK187.out)
                            have n7_ := Aside0.mk (blk_drew BK203.out)
                            have n8_ := Aside0.mk (below_drew1 HB.out)
                            clear HO_7
                            clear HO_12
                            clear HO_14
                            clear BK180
                            clear BK181
                            clear BK186
                            clear BK187
                            clear BK203
                            clear HB
                            have HO_7 := n0_
                            have HO_12 := n1_
                            have HO_14 := n2_
                            have BK180 := n3_
                            have BK181 := n4_
                            have BK186 := n5_
                            have BK187 := n6_
                            have BK203 := n7_
                            have HB := n8_
                            clear n0_ n1_ n2_ n3_ n4_ n5_ n6_ n7_ n8_
                            refine start_ (n := 11) (S := fun w' => True) (ds := []) #[false, false, false, false, false, false, false, false, false, false, false] (by kernel_rfl) rfl rfl trivial (fun hHeld => ?_); refine with_tabW dovecotelaw07_ChainPrunes.tab16 dovecotelaw07_ChainPrunes.bits16 (fun HT_ HW_ => ?_)
                            generalize wc.drew = w99 at HO_7 HO_12 HO_14 BK180 BK181 BK186 BK187 BK203 HB hHeld ⊢
                            refine pure_ (i := 0) (N := some 86) (v := ?_) (a' := ?_) #[true, false, false, false, false, false, false, false, false, false, false] rfl rfl (any_of HT_.out (by kernel_rfl)) (fun _ _ _ h => h) (Or.inl ⟨by rfl, ?_⟩) ?_ ?_
                            rotate_left
                            · intro w'
                              go_simp
                              with_reducible rfl
                            rotate_left
                            · simp only [Act.put, List.setIfInBounds_toArray, List.set_cons_zero, List.set_cons_succ, i64_w, i32_w]
                              rfl
                            refine pure_ (i := 1) (N := some 87) (v := ?_) (a' := ?_) #[true, true, false, false, false, false, false, false, false, false, false] rfl rfl (any_of HT_.out (by kernel_rfl)) (fun _ _ _ h => h) (Or.inl ⟨by rfl, ?_⟩) ?_ ?_
                            rotate_left
                            · intro w'
                              go_simp
                              with_reducible rfl
                            rotate_left
                            · simp only [Act.put, List.setIfInBounds_toArray, List.set_cons_zero, List.set_cons_succ, i64_w, i32_w]
                              rfl
                            refine pure_ (i := 2) (N := some 88) (v := ?_) (a' := ?_) #[true, true, true, false, false, false, false, false, false, false, false] rfl rfl (any_of HT_.out (by kernel_rfl)) (fun _ _ _ h => h) (Or.inl ⟨by rfl, ?_⟩) ?_ ?_
                            rotate_left
                            · intro w'
                              go_simp
                              with_reducible rfl
                            rotate_left
                            · simp only [Act.put, List.setIfInBounds_toArray, List.set_cons_zero, List.set_cons_succ, i64_w, i32_w]
                              rfl
                            refine pure_ (i := 3) (N := some 89) (v := ?_) (a' := ?_) #[true, true, true, true, false, false, false, false, false, false, false] rfl rfl (any_of HT_.out (by kernel_rfl)) (fun _ _ _ h => h) (Or.inl ⟨by rfl, ?_⟩) ?_ ?_
                            rotate_left
                            · intro w'
                              go_simp
                              with_reducible rfl
                            rotate_left
                            · simp only [Act.put, List.setIfInBounds_toArray, List.set_cons_zero, List.set_cons_succ, i64_w, i32_w]
                              rfl
                            refine pure_ (i := 4) (N := some 90) (v := undef) (a' := ?_) #[true, true, true, true, true, false, false, false, false, false, false] rfl rfl (any_of HT_.out (by kernel_rfl)) (fun _ _ _ h => h) (Or.inr ⟨by rfl, rfl⟩) ?_ ?_
                            rotate_left
                            · simp only [Act.put, List.setIfInBounds_toArray, List.set_cons_zero, List.set_cons_succ, i64_w, i32_w]
                              rfl
                            refine pure_ (i := 5) (N := some 91) (v := undef) (a' := ?_) #[true, true, true, true, true, true, false, false, false, false, false] rfl rfl (any_of HT_.out (by kernel_rfl)) (fun _ _ _ h => h) (Or.inr ⟨by rfl, rfl⟩) ?_ ?_
                            rotate_left
                            · simp only [Act.put, List.setIfInBounds_toArray, List.set_cons_zero, List.set_cons_succ, i64_w, i32_w]
                              rfl
                            refine pure_ (i := 6) (N := some 92) (v := undef) (a' := ?_) #[true, true, true, true, true, true, true, false, false, false, false] rfl rfl (any_of HT_.out (by kernel_rfl)) (fun _ _ _ h => h) (Or.inr ⟨by rfl, rfl⟩) ?_ ?_
                            rotate_left
                            · simp only [Act.put, List.setIfInBounds_toArray, List.set_cons_zero, List.set_cons_succ, i64_w, i32_w]
                              rfl
                            refine pure_ (i := 7) (N := some 93) (v := undef) (a' := ?_) #[true, true, true, true, true, true, true, true, false, false, false] rfl rfl (any_of HT_.out (by kernel_rfl)) (fun _ _ _ h => h) (Or.inr ⟨by rfl, rfl⟩) ?_ ?_
                            rotate_left
                            · simp only [Act.put, List.setIfInBounds_toArray, List.set_cons_zero, List.set_cons_succ, i64_w, i32_w]
                              rfl
                            refine pure_ (i := 8) (N := some 94) (v := undef) (a' := ?_) #[true, true, true, true, true, true, true, true, true, false, false] rfl rfl (any_of HT_.out (by kernel_rfl)) (fun _ _ _ h => h) (Or.inr ⟨by rfl, rfl⟩) ?_ ?_
                            rotate_left
                            · simp only [Act.put, List.setIfInBounds_toArray, List.set_cons_zero, List.set_cons_succ, i64_w, i32_w]
                              rfl
                            refine pure_ (i := 9) (N := some 95) (v := ?_) (a' := ?_) #[true, true, true, true, true, true, true, true, true, true, false] rfl rfl (any_of HT_.out (by kernel_rfl)) (fun _ _ _ h => h) (Or.inl ⟨by rfl, ?_⟩) ?_ ?_
                            rotate_left
                            · intro w'
                              go_simp
                              with_reducible rfl
                            rotate_left
                            · simp only [Act.put, List.setIfInBounds_toArray, List.set_cons_zero, List.set_cons_succ, i64_w, i32_w]
                              rfl
                            refine pure_ (i := 10) (N := some 6) (v := ?_) (a' := ?_) #[true, true, true, true, true, true, true, true, true, true, true] rfl rfl (any_of HT_.out (by kernel_rfl)) (fun _ _ _ h => h) (Or.inl ⟨by rfl, ?_⟩) ?_ ?_
                            rotate_left
                            · intro w'
                              go_simp
                              with_reducible rfl
                            rotate_left
                            · simp only [Act.put, List.setIfInBounds_toArray, List.set_cons_zero, List.set_cons_succ, i64_w, i32_w]
                              rfl
                            refine done_ (done_of HT_.out (by kernel_rfl)) ?_
                            try go_wp2
                            go_ret
                            exact ⟨by first | rfl | (simp [errW_none, errW_some] <;> rfl) | (simp [*, errW_none, errW_some] <;> rfl), by repeat (first | (with_reducible first | exact HB.out | apply below_alloc | apply pw_below_drewN | apply below_drew1 | refine below_set ?_ GE180.out | refine below_set ?_ GE181.out | refine below_set ?_ GE186.out | refine below_set ?_ GE187.out | refine below_set ?_ GE203.out) | exact HB.out)⟩
                          · rw [if_neg c98] at H
                            have c98b0 : (t207 == t211) = false := beq_eq_false_iff_ne.mpr c98
                            have c98b1 : (t207 != t211) = true := bne_iff_ne.mpr c98
                            replace H := Option.bind_eq_some_iff.mp H
                            obtain ⟨⟨t212, t213⟩, A1000, H⟩ := H
                            replace H : (some (t212 == 281474976710656 && (t213 == 4095))) = some r := H
                            have A100 := Aside0.mk A1000
                            clear A1000
                            obtain rfl := Option.some.inj H
                            try go_wp2
                            have n0_ := Aside0.mk (Kd.R_drew HO_7.out)
                            have n1_ := Aside0.mk (Kd.R_drew HO_12.out)
                            have n2_ := Aside0.mk (Kd.R_drew HO_14.out)
                            have n3_ := Aside0.mk (blk_drew BK180.out)
                            have n4_ := Aside0.mk (blk_drew BK181.out)
                            have n5_ := Aside0.mk (blk_drew BK186.out)
                            have n6_ := Aside0.mk (blk_drew BK187.out)
                            have n7_ := Aside0.mk (blk_drew BK203.out)
                            have n8_ := Aside0.mk (below_drew1 HB.out)
                            clear HO_7
                            clear HO_12
                            clear HO_14
                            clear BK180
                            clear BK181
                            clear BK186
                            clear BK187
                            clear BK203
                            clear HB
                            have HO_7 := n0_
                            have HO_12 := n1_
                            have HO_14 := n2_
                            have BK180 := n3_
                            have BK181 := n4_
                            have BK186 := n5_
                            have BK187 := n6_
                            have BK203 := n7_
                            have HB := n8_
                            clear n0_ n1_ n2_ n3_ n4_ n5_ n6_ n7_ n8_
                            refine start_ (n := 11) (S := fun w' => w'.cell? ⟨gb203, 0, none⟩ = some (.int .u64 281474976710656) ∧ w'.cell? ⟨gb203, 1, none⟩ = some (.int .u32 4095) ∧ w'.cell? ⟨gb203, 2, none⟩ = some (.int .u32 0) ∧ w'.cell? ⟨gb203, 3, none⟩ = some (.int .u32 0) ∧ w'.cell? ⟨gb203, 4, none⟩ = some (.string (⟨#[110, 101, 119]⟩ : ByteArray)) ∧ w'.cell? ⟨gb203, 5, none⟩ = some (.bool false)) (ds := []) #[false, false, false, false, false, false, false, false, false, false, false] (by kernel_rfl) rfl rfl ⟨(blk_cell BK203.out 0).trans rfl, (blk_cell BK203.out 1).trans rfl, (blk_cell BK203.out 2).trans rfl, (blk_cell BK203.out 3).trans rfl, (blk_cell BK203.out 4).trans rfl, (blk_cell BK203.out 5).trans rfl⟩ (fun hHeld => ?_); refine with_tabW dovecotelaw07_ChainPrunes.tab16 dovecotelaw07_ChainPrunes.bits16 (fun HT_ HW_ => ?_)
                            generalize wc.drew = w101 at HO_7 HO_12 HO_14 BK180 BK181 BK186 BK187 BK203 HB hHeld ⊢
                            refine pure_ (i := 0) (N := some 86) (v := ?_) (a' := ?_) #[true, false, false, false, false, false, false, false, false, false, false] rfl rfl (any_of HT_.out (by kernel_rfl)) (fun _ _ _ h => h) (Or.inl ⟨by rfl, ?_⟩) ?_ ?_
                            rotate_left
                            · intro w'
                              go_simp
                              with_reducible rfl
                            rotate_left
                            · simp only [Act.put, List.setIfInBounds_toArray, List.set_cons_zero, List.set_cons_succ, i64_w, i32_w]
                              rfl
                            refine pure_ (i := 1) (N := some 87) (v := ?_) (a' := ?_) #[true, true, false, false, false, false, false, false, false, false, false] rfl rfl (any_of HT_.out (by kernel_rfl)) (fun _ _ _ h => h) (Or.inl ⟨by rfl, ?_⟩) ?_ ?_
                            rotate_left
                            · intro w'
                              go_simp
                              with_reducible rfl
                            rotate_left
                            · simp only [Act.put, List.setIfInBounds_toArray, List.set_cons_zero, List.set_cons_succ, i64_w, i32_w]
                              rfl
                            refine pure_ (i := 2) (N := some 88) (v := ?_) (a' := ?_) #[true, true, true, false, false, false, false, false, false, false, false] rfl rfl (any_of HT_.out (by kernel_rfl)) (fun _ _ _ h => h) (Or.inl ⟨by rfl, ?_⟩) ?_ ?_
                            rotate_left
                            · intro w'
                              go_simp
                              with_reducible rfl
                            rotate_left
                            · simp only [Act.put, List.setIfInBounds_toArray, List.set_cons_zero, List.set_cons_succ, i64_w, i32_w]
                              rfl
                            refine pure_ (i := 3) (N := some 89) (v := ?_) (a' := ?_) #[true, true, true, true, false, false, false, false, false, false, false] rfl rfl (any_of HT_.out (by kernel_rfl)) (fun _ _ _ h => h) (Or.inl ⟨by rfl, ?_⟩) ?_ ?_
                            rotate_left
                            · intro w'
                              go_simp
                              with_reducible rfl
                            rotate_left
                            · simp only [Act.put, List.setIfInBounds_toArray, List.set_cons_zero, List.set_cons_succ, i64_w, i32_w]
                              rfl
                            refine pure_ (i := 4) (N := some 90) (v := ?_) (a' := ?_) #[true, true, true, true, true, false, false, false, false, false, false] rfl rfl (any_of HT_.out (by kernel_rfl)) (fun _ _ _ h => h) (Or.inl ⟨by rfl, ?_⟩) ?_ ?_
                            rotate_left
                            · intro w'
                              go_simp
                              with_reducible rfl
                            rotate_left
                            · simp only [Act.put, List.setIfInBounds_toArray, List.set_cons_zero, List.set_cons_succ, i64_w, i32_w]
                              rfl
                            refine pure_ (i := 6) (N := some 92) (v := ?_) (a' := ?_) #[true, true, true, true, true, false, true, false, false, false, false] rfl rfl (any_of HT_.out (by kernel_rfl)) (fun _ _ _ h => h) (Or.inl ⟨by rfl, ?_⟩) ?_ ?_
                            rotate_left
                            · intro w'
                              go_simp
                              with_reducible rfl
                            rotate_left
                            · simp only [Act.put, List.setIfInBounds_toArray, List.set_cons_zero, List.set_cons_succ, i64_w, i32_w]
                              rfl
                            refine take_ (i := 7) (N := some 93) (v := ?_) (a' := ?_) #[true, true, true, true, true, false, true, true, false, false, false] rfl rfl (take_ofW HT_.out HW_.out (by kernel_rfl)) (fun _ _ _ h => h) (Or.inl ⟨by rfl, ?_⟩) hHeld ?_ ?_
                            rotate_left
                            · rintro w' ⟨s0, s1, s2, s3, s4, s5⟩
                              go_simp
                              with_reducible rfl
                            rotate_left
                            · simp only [Act.put, List.setIfInBounds_toArray, List.set_cons_zero, List.set_cons_succ, i64_w, i32_w]
                              rfl
                            refine one_ (i := 5) (N := some 91) #[true, true, true, true, true, true, true, true, false, false, false] rfl rfl (one_of HT_.out (by kernel_rfl)) (by decide) (fun K hK => ?_)
                            refine goes_ Try.func23 (by kernel_rfl) rfl #[.slice Ao60 t183.length co60] (by rfl) rfl rfl (by (try simp only [List.map_toArray, List.map_cons, List.map_nil]); first | done | rfl | (simp only [List.length_drop, List.length_take]; rfl)) ?_
                            with_reducible refine (chain_Newest.calls kj84 _ _ t183 t212 t213 _ ?side1 ?side2 A100.out).mono ?_
                            (case side1 => repeat (first | exact (Kd.R_reads' HO_7.out).2.2 | (with_reducible refine Kd.C_alloc ?_ _) | (with_reducible refine Kd.C_drewN ?_ _) | (with_reducible refine Kd.C_drew ?_)))
                            (case side2 => exact (Kd.R_reads' HO_7.out).2.1)
                            rintro e w102 ⟨rfl, hb⟩
                            refine ⟨_, rfl, ?_⟩
                            have n0_ := Aside0.mk (Kd.R_below (by (with_reducible repeat (first | apply Kd.R_alloc | apply Kd.R_drewN | apply Kd.R_drew)); exact HO_7.out) hb)
                            have n1_ := Aside0.mk (Kd.R_below (by (with_reducible repeat (first | apply Kd.R_alloc | apply Kd.R_drewN | apply Kd.R_drew)); exact HO_12.out) hb)
                            have n2_ := Aside0.mk (Kd.R_below (by (with_reducible repeat (first | apply Kd.R_alloc | apply Kd.R_drewN | apply Kd.R_drew)); exact HO_14.out) hb)
                            have n3_ := Aside0.mk (blk_below (g := gb180) (o := .cells #[.int .u64 a1_0, .int .u32 a1_1] 27 (0, 0)) (by (with_reducible repeat (first | refine blk_drewN ?_ _ | refine blk_drew ?_ | refine blk_alloc ?_ _)); exact BK180.out) hb)
                            have n4_ := Aside0.mk (blk_below (g := gb181) (o := .cells #[.int .u64 a2_0, .int .u32 a2_1] 27 (0, 0)) (by (with_reducible repeat (first | refine blk_drewN ?_ _ | refine blk_drew ?_ | refine blk_alloc ?_ _)); exact BK181.out) hb)
                            have n5_ := Aside0.mk (blk_below (g := gb186) (o := .cells #[.int .u64 x187000_46, .int .u32 x187001_46] 27 (0, 0)) (by (with_reducible repeat (first | refine blk_drewN ?_ _ | refine blk_drew ?_ | refine blk_alloc ?_ _)); exact BK186.out) hb)
                            have n6_ := Aside0.mk (blk_below (g := gb187) (o := .cells #[.int .u64 x188000_46, .int .u32 x188001_46] 27 (0, 0)) (by (with_reducible repeat (first | refine blk_drewN ?_ _ | refine blk_drew ?_ | refine blk_alloc ?_ _)); exact BK187.out) hb)
                            have n7_ := Aside0.mk (blk_below (g := gb203) (o := .cells #[.int .u64 281474976710656, .int .u32 4095, .int .u32 0, .int .u32 0, .string (⟨#[110, 101, 119]⟩ : ByteArray), .bool false] 31 (0, 0)) (by (with_reducible repeat (first | refine blk_drewN ?_ _ | refine blk_drew ?_ | refine blk_alloc ?_ _)); exact BK203.out) hb)
                            have n8_ := Aside0.mk (below_step (by repeat (first | (with_reducible first | exact HB.out | apply below_alloc | apply pw_below_drewN | apply below_drew1 | refine below_set ?_ GE180.out | refine below_set ?_ GE181.out | refine below_set ?_ GE186.out | refine below_set ?_ GE187.out | refine below_set ?_ GE203.out) | exact HB.out)) hb)
                            clear HO_7
                            clear HO_12
                            clear HO_14
                            clear BK180
                            clear BK181
                            clear BK186
                            clear BK187
                            clear BK203
                            clear HB
                            have HO_7 := n0_
                            have HO_12 := n1_
                            have HO_14 := n2_
                            have BK180 := n3_
                            have BK181 := n4_
                            have BK186 := n5_
                            have BK187 := n6_
                            have BK203 := n7_
                            have HB := n8_
                            clear n0_ n1_ n2_ n3_ n4_ n5_ n6_ n7_ n8_
                            (try clear hb)
                            (try clear hb2)
                            (try clear hk)
                            (try clear hi)
                            refine hK.out _ _ ⟨(blk_cell BK203.out 0).trans rfl, (blk_cell BK203.out 1).trans rfl, (blk_cell BK203.out 2).trans rfl, (blk_cell BK203.out 3).trans rfl, (blk_cell BK203.out 4).trans rfl, (blk_cell BK203.out 5).trans rfl⟩ (fun hHeld => ?_)
                            clear hK K
                            refine norm_ (a' := ?_) ?_ ?_
                            rotate_left
                            · show Act.put _ (some 91) _ = _
                              simp only [Act.put, List.setIfInBounds_toArray, List.set_cons_zero, List.set_cons_succ, i64_w, i32_w]
                              rfl
                            refine pure_ (i := 8) (N := some 94) (v := ?_) (a' := ?_) #[true, true, true, true, true, true, true, true, true, false, false] rfl rfl (any_of HT_.out (by kernel_rfl)) (fun _ _ _ h => h) (Or.inl ⟨by rfl, ?_⟩) ?_ ?_
                            rotate_left
                            · intro w'
                              go_simp
                              with_reducible rfl
                            rotate_left
                            · simp only [Act.put, List.setIfInBounds_toArray, List.set_cons_zero, List.set_cons_succ, i64_w, i32_w]
                              rfl
                            refine pure_ (i := 9) (N := some 95) (v := ?_) (a' := ?_) #[true, true, true, true, true, true, true, true, true, true, false] rfl rfl (any_of HT_.out (by kernel_rfl)) (fun _ _ _ h => h) (Or.inl ⟨by rfl, ?_⟩) ?_ ?_
                            rotate_left
                            · intro w'
                              go_simp
                              with_reducible rfl
                            rotate_left
                            · simp only [Act.put, List.setIfInBounds_toArray, List.set_cons_zero, List.set_cons_succ, i64_w, i32_w]
                              rfl
                            refine pure_ (i := 10) (N := some 6) (v := ?_) (a' := ?_) #[true, true, true, true, true, true, true, true, true, true, true] rfl rfl (any_of HT_.out (by kernel_rfl)) (fun _ _ _ h => h) (Or.inl ⟨by rfl, ?_⟩) ?_ ?_
                            rotate_left
                            · intro w'
                              go_simp
                              with_reducible rfl
                            rotate_left
                            · simp only [Act.put, List.setIfInBounds_toArray, List.set_cons_zero, List.set_cons_succ, i64_w, i32_w]
                              rfl
                            refine done_ (done_of HT_.out (by kernel_rfl)) ?_
                            try go_wp2
                            go_ret
                            exact ⟨by first | rfl | (simp [errW_none, errW_some] <;> rfl) | (simp [*, errW_none, errW_some] <;> rfl), by repeat (first | (with_reducible first | exact HB.out | apply below_alloc | apply pw_below_drewN | apply below_drew1 | refine below_set ?_ GE180.out | refine below_set ?_ GE181.out | refine below_set ?_ GE186.out | refine below_set ?_ GE187.out | refine below_set ?_ GE203.out) | exact HB.out)⟩
                        · replace c97 := Bool.eq_false_iff.mpr c97
                          subst c97
                          have H1 : (if x187000_46 ≥ 281474976710656 then (some true) else ((chain_Prune.f kj84 t208 x187000_46 x187001_46).bind fun t214 => ((dovecoteref07_Same.f kj84 t204 t214).bind fun t217 => (some t217)))) = some r := by rw [if_neg (show ¬ (false = true) by decide)] at H; exact H
                          clear H
                          have H := H1
                          clear H1
                          by_cases c103 : x187000_46 ≥ 281474976710656
                          · rw [if_pos c103] at H
                            have c103b0 : decide (281474976710656 ≤ x187000_46) = true := decide_eq_true c103
                            clear c103
                            obtain rfl := Option.some.inj H
                            have hnb104 := NB186_180.out
                            have hnc104 := NB180_186.out
                            have hnb105 := NB186_181.out
                            have hnc105 := NB181_186.out
                            have hnb106 := NB186_187.out
                            have hnc106 := NB187_186.out
                            have hnb107 := NB186_203.out
                            have hnc107 := NB203_186.out
                            have hcz108_0 : wc.cell? ⟨gb186, 0, none⟩ = some (.int .u64 x187000_46) := (blk_cell BK186.out 0).trans rfl
                            have hcz108_1 : wc.cell? ⟨gb186, 1, none⟩ = some (.int .u32 x187001_46) := (blk_cell BK186.out 1).trans rfl
                            have hfz108_0 := blk_frozen BK186.out 0
                            have hfz108_1 := blk_frozen BK186.out 1
                            go_wp2
                            go_ret
                            exact ⟨by first | rfl | (simp [errW_none, errW_some] <;> rfl) | (simp [*, errW_none, errW_some] <;> rfl), by repeat (first | (with_reducible first | exact HB.out | apply below_alloc | apply pw_below_drewN | apply below_drew1 | refine below_set ?_ GE180.out | refine below_set ?_ GE181.out | refine below_set ?_ GE186.out | refine below_set ?_ GE187.out | refine below_set ?_ GE203.out) | exact HB.out)⟩
                          · rw [if_neg c103] at H
                            have c103b0 : decide (281474976710656 ≤ x187000_46) = false := decide_eq_false c103
                            clear c103
                            replace H := Option.bind_eq_some_iff.mp H
                            obtain ⟨t214, A1090, H⟩ := H
                            replace H : ((dovecoteref07_Same.f kj84 t204 t214).bind fun t217 => (some t217)) = some r := H
                            have A109 := Aside0.mk A1090
                            clear A1090
                            replace H := Option.bind_eq_some_iff.mp H
                            obtain ⟨t217, A1100, H⟩ := H
                            replace H : (some t217) = some r := H
                            have A110 := Aside0.mk A1100
                            clear A1100
                            obtain rfl := Option.some.inj H
                            have hnb111 := NB186_180.out
                            have hnc111 := NB180_186.out
                            have hnb112 := NB186_181.out
                            have hnc112 := NB181_186.out
                            have hnb113 := NB186_187.out
                            have hnc113 := NB187_186.out
                            have hnb114 := NB186_203.out
                            have hnc114 := NB203_186.out
                            have hcz115_0 : wc.cell? ⟨gb186, 0, none⟩ = some (.int .u64 x187000_46) := (blk_cell BK186.out 0).trans rfl
                            have hcz115_1 : wc.cell? ⟨gb186, 1, none⟩ = some (.int .u32 x187001_46) := (blk_cell BK186.out 1).trans rfl
                            have hfz115_0 := blk_frozen BK186.out 0
                            have hfz115_1 := blk_frozen BK186.out 1
                            obtain ⟨Ao116, co116, eo116⟩ := Kd.R_slice HO_14.out
                            subst eo116
                            go_wp2_with (first | (go_at_call 18; (with_reducible refine (chain_Prune.calls kj84 _ _ t208 x187000_46 x187001_46 t214 _ ?side1 ?side2 A109.out).mono ?_); (case side1 => repeat (first | exact (Kd.R_reads' HO_14.out).2.2 | (with_reducible refine Kd.C_alloc ?_ _) | (with_reducible refine Kd.C_drewN ?_ _) | (with_reducible refine Kd.C_drew ?_))); (case side2 => exact (Kd.R_reads' HO_14.out).2.1); rintro e w117 ⟨v215, rfl, ho0, hb⟩; have n0_ := Aside0.mk (Kd.R_elder' (by (with_reducible repeat (first | apply Kd.R_alloc | apply Kd.R_drewN | apply Kd.R_drew)); exact HO_7.out) (Kd.R_base ho0) hb); have n1_ := Aside0.mk (Kd.R_elder' (by (with_reducible repeat (first | apply Kd.R_alloc | apply Kd.R_drewN | apply Kd.R_drew)); exact HO_12.out) (Kd.R_base ho0) hb); have n2_ := Aside0.mk (Kd.R_elder' (by (with_reducible repeat (first | apply Kd.R_alloc | apply Kd.R_drewN | apply Kd.R_drew)); exact HO_14.out) (Kd.R_base ho0) hb); have n3_ := Aside0.mk (Kd.R_lower (Kd.R_newB (Kd.R_new' (Kd.R_new' (Kd.R_new' ho0 (Kd.R_lt (by (with_reducible repeat (first | apply Kd.R_alloc | apply Kd.R_drewN | apply Kd.R_drew)); exact HO_7.out))) (Kd.R_lt (by (with_reducible repeat (first | apply Kd.R_alloc | apply Kd.R_drewN | apply Kd.R_drew)); exact HO_12.out))) (Kd.R_lt (by (with_reducible repeat (first | apply Kd.R_alloc | apply Kd.R_drewN | apply Kd.R_drew)); exact HO_14.out))) (g := gb203) (o := .cells #[.int .u64 281474976710656, .int .u32 4095, .int .u32 0, .int .u32 0, .string (⟨#[110, 101, 119]⟩ : ByteArray), .bool false] 31 (0, 0)) (by (with_reducible repeat (first | refine blk_drewN ?_ _ | refine blk_drew ?_ | refine blk_alloc ?_ _)); exact BK203.out)) (below_size (by repeat (first | (with_reducible first | exact HB.out | apply below_alloc | apply pw_below_drewN | apply below_drew1 | refine below_set ?_ GE180.out | refine below_set ?_ GE181.out | refine below_set ?_ GE186.out | refine below_set ?_ GE187.out | refine below_set ?_ GE203.out) | exact HB.out)))); have n4_ := Aside0.mk (blk_below (g := gb180) (o := .cells #[.int .u64 a1_0, .int .u32 a1_1] 27 (0, 0)) (by (with_reducible repeat (first | refine blk_drewN ?_ _ | refine blk_drew ?_ | refine blk_alloc ?_ _)); exact BK180.out) hb); have n5_ := Aside0.mk (blk_below (g := gb181) (o := .cells #[.int .u64 a2_0, .int .u32 a2_1] 27 (0, 0)) (by (with_reducible repeat (first | refine blk_drewN ?_ _ | refine blk_drew ?_ | refine blk_alloc ?_ _)); exact BK181.out) hb); have n6_ := Aside0.mk (blk_below (g := gb186) (o := .cells #[.int .u64 x187000_46, .int .u32 x187001_46] 27 (0, 0)) (by (with_reducible repeat (first | refine blk_drewN ?_ _ | refine blk_drew ?_ | refine blk_alloc ?_ _)); exact BK186.out) hb); have n7_ := Aside0.mk (blk_below (g := gb187) (o := .cells #[.int .u64 x188000_46, .int .u32 x188001_46] 27 (0, 0)) (by (with_reducible repeat (first | refine blk_drewN ?_ _ | refine blk_drew ?_ | refine blk_alloc ?_ _)); exact BK187.out) hb); have n8_ := Aside0.mk (blk_below (g := gb203) (o := .cells #[.int .u64 281474976710656, .int .u32 4095, .int .u32 0, .int .u32 0, .string (⟨#[110, 101, 119]⟩ : ByteArray), .bool false] 31 (0, 0)) (by (with_reducible repeat (first | refine blk_drewN ?_ _ | refine blk_drew ?_ | refine blk_alloc ?_ _)); exact BK203.out) hb); have n9_ := Aside0.mk (below_step (by repeat (first | (with_reducible first | exact HB.out | apply below_alloc | apply pw_below_drewN | apply below_drew1 | refine below_set ?_ GE180.out | refine below_set ?_ GE181.out | refine below_set ?_ GE186.out | refine below_set ?_ GE187.out | refine below_set ?_ GE203.out) | exact HB.out)) hb); clear HO_7; clear HO_12; clear HO_14; clear BK180; clear BK181; clear BK186; clear BK187; clear BK203; clear HB; have HO_7 := n0_; have HO_12 := n1_; have HO_14 := n2_; have HO216 := n3_; have BK180 := n4_; have BK181 := n5_; have BK186 := n6_; have BK187 := n7_; have BK203 := n8_; have HB := n9_; clear n0_ n1_ n2_ n3_ n4_ n5_ n6_ n7_ n8_ n9_; (try clear hb); (try clear hb2); (try clear hk); (try clear hi); (try clear ho0); obtain ⟨Ao118, co118, eo118⟩ := Kd.R_slice HO_12.out; subst eo118; obtain ⟨Ao119, co119, eo119⟩ := Kd.R_slice HO216.out; subst eo119) | (go_at_call 14; (with_reducible refine (dovecoteref07_Same.calls kj84 _ _ t204 _ _ t214 t217 _ ?side1 ?side2 ?side3 ?side4 A110.out).mono ?_); (case side1 => repeat (first | exact (Kd.R_reads' HO_12.out).2.2 | (with_reducible refine Kd.C_alloc ?_ _) | (with_reducible refine Kd.C_drewN ?_ _) | (with_reducible refine Kd.C_drew ?_))); (case side2 => exact (Kd.R_reads' HO_12.out).2.1); (case side3 => repeat (first | exact (Kd.R_reads' HO216.out).2.2 | (with_reducible refine Kd.C_alloc ?_ _) | (with_reducible refine Kd.C_drewN ?_ _) | (with_reducible refine Kd.C_drew ?_))); (case side4 => exact (Kd.R_reads' HO216.out).2.1); rintro e w' ⟨rfl, ⟨nd, rfl⟩⟩))
                            go_ret
                            exact ⟨by first | rfl | (simp [errW_none, errW_some] <;> rfl) | (simp [*, errW_none, errW_some] <;> rfl), by repeat (first | (with_reducible first | exact HB.out | apply below_alloc | apply pw_below_drewN | apply below_drew1 | refine below_set ?_ GE180.out | refine below_set ?_ GE181.out | refine below_set ?_ GE186.out | refine below_set ?_ GE187.out | refine below_set ?_ GE203.out) | exact HB.out)⟩
  · replace c5 := Bool.eq_false_iff.mpr c5
    subst c5
    have H1 : (some false) = some r := by rw [if_neg (show ¬ (false = true) by decide)] at H; exact H
    clear H
    have H := H1
    clear H1
    obtain rfl := Option.some.inj H
    go_enter Try.func6, Try.ntmps6
    go_wp2_with (first | ((with_reducible refine gate_dst (N := 4) rfl ?_); (try (refine gate_guard (by rfl) ?_; dsimp only)); refine box_event ?hg (N := 4) ?hd (cs := #[.int .u64 a1_0, .int .u32 a1_1]) (t := 27) ?hr ?_; (case hd => rfl); (case hg => rfl); (case hr => first | (go_simp; done) | (go_simp; rfl)); intro gb180 hg w120 hbox hb; have n0_ := Aside0.mk (below_step (by repeat (first | (with_reducible first | exact HB.out | apply below_alloc | apply pw_below_drewN | apply below_drew1) | exact HB.out)) hb); have n1_ := Aside0.mk (hbox); have n2_ := Aside0.mk ((by rw [hg]; exact (below_size (by repeat (first | (with_reducible first | exact HB.out | apply below_alloc | apply pw_below_drewN | apply below_drew1) | exact HB.out))) : w.heap.size ≤ gb180)); have n3_ := Aside0.mk ((by rw [hg]; exact (below_size (by repeat (first | (with_reducible first | exact HB.out | apply below_alloc | apply pw_below_drewN | apply below_drew1) | exact HB.out))) : w.heap.size ≤ gb180)); clear HB; have HB := n0_; have BK180 := n1_; have GW180 := n2_; have GE180 := n3_; clear n0_ n1_ n2_ n3_; clear hb hbox hg) | ((with_reducible refine gate_dst (N := 5) rfl ?_); (try (refine gate_guard (by rfl) ?_; dsimp only)); refine box_event ?hg (N := 5) ?hd (cs := #[.int .u64 a2_0, .int .u32 a2_1]) (t := 27) ?hr ?_; (case hd => rfl); (case hg => rfl); (case hr => first | (go_simp; done) | (go_simp; rfl)); intro gb181 hg w121 hbox hb; have n0_ := Aside0.mk (blk_below (g := gb180) (o := .cells #[.int .u64 a1_0, .int .u32 a1_1] 27 (0, 0)) (by (with_reducible repeat (first | refine blk_drewN ?_ _ | refine blk_drew ?_ | refine blk_alloc ?_ _)); exact BK180.out) hb); have n1_ := Aside0.mk (below_step (by repeat (first | (with_reducible first | exact HB.out | apply below_alloc | apply pw_below_drewN | apply below_drew1 | refine below_set ?_ GE180.out) | exact HB.out)) hb); have n2_ := Aside0.mk (hbox); have n3_ := Aside0.mk ((by rw [hg]; exact (below_size (by repeat (first | (with_reducible first | exact HB.out | apply below_alloc | apply pw_below_drewN | apply below_drew1 | refine below_set ?_ GE180.out) | exact HB.out))) : w.heap.size ≤ gb181)); have n4_ := Aside0.mk ((by rw [hg]; exact (below_size (by repeat (first | (with_reducible first | exact HB.out | apply below_alloc | apply pw_below_drewN | apply below_drew1 | refine below_set ?_ GE180.out) | exact HB.out))) : w.heap.size ≤ gb181)); have n5_ := Aside0.mk ((by rw [hg]; exact Nat.ne_of_lt (blk_lt (g := gb180) (o := .cells #[.int .u64 a1_0, .int .u32 a1_1] 27 (0, 0)) (by (with_reducible repeat (first | refine blk_drewN ?_ _ | refine blk_drew ?_ | refine blk_alloc ?_ _)); exact BK180.out)) : gb180 ≠ gb181)); have n6_ := Aside0.mk ((by rw [hg]; exact Nat.ne_of_gt (blk_lt (g := gb180) (o := .cells #[.int .u64 a1_0, .int .u32 a1_1] 27 (0, 0)) (by (with_reducible repeat (first | refine blk_drewN ?_ _ | refine blk_drew ?_ | refine blk_alloc ?_ _)); exact BK180.out)) : gb181 ≠ gb180)); clear BK180; clear HB; have BK180 := n0_; have HB := n1_; have BK181 := n2_; have GW181 := n3_; have GE181 := n4_; have NB180_181 := n5_; have NB181_180 := n6_; clear n0_ n1_ n2_ n3_ n4_ n5_ n6_; clear hb hbox hg) | ((with_reducible refine gate_callee (f := 13) rfl ?_); refine goesL_ (some 16) rfl rfl Try.func13 (by kernel_rfl) rfl #[] rfl (by (try simp only [List.map_toArray, List.map_cons, List.map_nil]); first | done | rfl | (simp only [List.length_drop, List.length_take]; rfl)) ?_; (with_reducible refine (dovecotelaw07_awake.calls k  false _ A4.out).mono ?_); rintro e w122 ⟨rfl, hb⟩; refine ⟨_, rfl, ?_⟩; have n0_ := Aside0.mk (blk_below (g := gb180) (o := .cells #[.int .u64 a1_0, .int .u32 a1_1] 27 (0, 0)) (by (with_reducible repeat (first | refine blk_drewN ?_ _ | refine blk_drew ?_ | refine blk_alloc ?_ _)); exact BK180.out) hb); have n1_ := Aside0.mk (blk_below (g := gb181) (o := .cells #[.int .u64 a2_0, .int .u32 a2_1] 27 (0, 0)) (by (with_reducible repeat (first | refine blk_drewN ?_ _ | refine blk_drew ?_ | refine blk_alloc ?_ _)); exact BK181.out) hb); have n2_ := Aside0.mk (below_step (by repeat (first | (with_reducible first | exact HB.out | apply below_alloc | apply pw_below_drewN | apply below_drew1 | refine below_set ?_ GE180.out | refine below_set ?_ GE181.out) | exact HB.out)) hb); clear BK180; clear BK181; clear HB; have BK180 := n0_; have BK181 := n1_; have HB := n2_; clear n0_ n1_ n2_; (try clear hb); (try clear hb2); (try clear hk); (try clear hi)))
    go_ret
    exact ⟨by first | rfl | (simp [errW_none, errW_some] <;> rfl) | (simp [*, errW_none, errW_some] <;> rfl), by repeat (first | (with_reducible first | exact HB.out | apply below_alloc | apply pw_below_drewN | apply below_drew1 | refine below_set ?_ GE180.out | refine below_set ?_ GE181.out) | exact HB.out)⟩

end Go.Proofs.Ytomcjcoehahikaa.MChainPrunes
