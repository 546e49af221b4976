/- Printed by a program of the session's own (wip/myprint.sh): the kit's printer, with texts of the session's own for some functions. -/
import Derived.Test.YtomcjcoehahikaaMChainSeesx0
import Derived.Test.YtomcjcoehahikaaMChainSeesx1
import Derived.Test.YtomcjcoehahikaaMChainSeesx3
import Derived.Test.YtomcjcoehahikaaMChainSeesx4
import Derived.Test.YtomcjcoehahikaaMChainSeesx5
import Derived.Test.YtomcjcoehahikaaMChainSeesx6
namespace Go.Proofs.Ytomcjcoehahikaa.MChainSees
open Go.RowKit Go.Proofs.YtomcjcoehahikaaW.PrintWords Go.Proofs.YtomcjcoehahikaaW.PrintLast Go.Proofs.YtomcjcoehahikaaW.PrintMore
attribute [local go_sem] max2_int min2_int max_two min_two max_three min_three max_four min_four   -- for this text's walks alone
set_option linter.unusedVariables false
set_option linter.unusedSimpArgs false

attribute [local go_sem high] eqA31
/-! ### dovecotelaw07_ChainSees: function 4 -/
/-- How the last test comes out true. -/
theorem sees_case {t189 t213 t188 t212 E : Bool} (h : (if t189 = true then (if t213 = true then (if ((!t188) == (!t212)) = true then (if t188 = true then some true else some E) else some false) else (if ((!t188) == false) = true then (if t188 = true then some true else some E) else some false)) else (if t213 = true then (if (false == (!t212)) = true then some true else some false) else (if (false == false) = true then some true else some false))) = some true) :
    (t189 = true ∧ t213 = true ∧ t188 = false ∧ t212 = false ∧ E = true) ∨ (t189 = true ∧ t213 = true ∧ t188 = true ∧ t212 = true) ∨ (t189 = true ∧ t213 = false ∧ t188 = true) ∨ (t189 = false ∧ t213 = true ∧ t212 = true) ∨ (t189 = false ∧ t213 = false) := by
  cases t189 <;> cases t213 <;> cases t188 <;> cases t212 <;> simp_all
mutual
def dovecotelaw07_ChainSees.j0 : Nat → List (S31) → Bool → Int → Int → Int → Int → Int → Int → Int → Int → ByteArray → Bool → Option (Bool)
  | 0, _, _, _, _, _, _, _, _, _, _, _, _ => none
  | k + 1, x7, x11, x182000, x182001, x183000, x183001, x191000, x191001, x191002, x191003, x191004, x191005 => (chain_Prune.f k x7 x183000 x183001).bind fun t203 => ((chain_Right.f k t203).bind fun t206 => (if t206 = true then (dovecotelaw07_ChainSees.j1 k x11 t203 (decide ((t203.length : Int) > (x7.length : Int))) x182000 x182001 x183000 x183001 x191000 x191001 x191002 x191003 x191004 x191005) else (dovecotelaw07_ChainSees.j1 k x11 t203 true x182000 x182001 x183000 x183001 x191000 x191001 x191002 x191003 x191004 x191005)))
def dovecotelaw07_ChainSees.j1 : Nat → Bool → List (S31) → Bool → Int → Int → Int → Int → Int → Int → Int → Int → ByteArray → Bool → Option (Bool)
  | 0, _, _, _, _, _, _, _, _, _, _, _, _, _ => none
  | k + 1, x11, x16, x82, x182000, x182001, x183000, x183001, x191000, x191001, x191002, x191003, x191004, x191005 => if x82 = true then (some false) else (if x182000 > x183000 then ((chain_At.f k x16 x182000 x182001).bind fun bt207 => (if x11 = true then (if bt207.2.2.2.2.2.2 = true then (if ((!x191005) == (!bt207.2.2.2.2.2.1)) = true then (if x191005 = true then (some true) else (some ((x191000 == bt207.1 && (x191001 == bt207.2.1)) && ((x191002 == bt207.2.2.1 && (x191003 == bt207.2.2.2.1)) && (x191004.toList == bt207.2.2.2.2.1.toList && (x191005 == bt207.2.2.2.2.2.1)))))) else (some false)) else (if ((!x191005) == false) = true then (if x191005 = true then (some true) else (some ((x191000 == bt207.1 && (x191001 == bt207.2.1)) && ((x191002 == bt207.2.2.1 && (x191003 == bt207.2.2.2.1)) && (x191004.toList == bt207.2.2.2.2.1.toList && (x191005 == bt207.2.2.2.2.2.1)))))) else (some false))) else (if bt207.2.2.2.2.2.2 = true then (if (false == (!bt207.2.2.2.2.2.1)) = true then (some true) else (some false)) else (if (false == false) = true then (some true) else (some false))))) else (if x182000 = x183000 then (if x182001 ≥ x183001 then ((chain_At.f k x16 x182000 x182001).bind fun bt215 => (if x11 = true then (if bt215.2.2.2.2.2.2 = true then (if ((!x191005) == (!bt215.2.2.2.2.2.1)) = true then (if x191005 = true then (some true) else (some ((x191000 == bt215.1 && (x191001 == bt215.2.1)) && ((x191002 == bt215.2.2.1 && (x191003 == bt215.2.2.2.1)) && (x191004.toList == bt215.2.2.2.2.1.toList && (x191005 == bt215.2.2.2.2.2.1)))))) else (some false)) else (if ((!x191005) == false) = true then (if x191005 = true then (some true) else (some ((x191000 == bt215.1 && (x191001 == bt215.2.1)) && ((x191002 == bt215.2.2.1 && (x191003 == bt215.2.2.2.1)) && (x191004.toList == bt215.2.2.2.2.1.toList && (x191005 == bt215.2.2.2.2.2.1)))))) else (some false))) else (if bt215.2.2.2.2.2.2 = true then (if (false == (!bt215.2.2.2.2.2.1)) = true then (some true) else (some false)) else (if (false == false) = true then (some true) else (some false))))) else (some true)) else (some true)))
end
def dovecotelaw07_ChainSees.f (k : Nat) (l0 : List (S31)) (a1_0 : Int) (a1_1 : Int) (a1_2 : Int) (a1_3 : Int) (a1_4 : ByteArray) (a1_5 : Bool) (a2_0 : Int) (a2_1 : Int) (a2_2 : Int) (a2_3 : Int) : Option (Bool) := (dovecotelaw07_awake.f k).bind fun t177 => (if t177 = true then (if (l0.length : Int) > 60 then (some true) else ((dovecotelaw07_built.f k l0).bind fun t178 => ((chain_At.f k t178 a2_0 a2_1).bind fun bt183 => ((chain_Put.f k t178 a1_0 a1_1 a1_2 a1_3 a1_4 a1_5).bind fun bt191 => (if bt191.2 = 0 then ((chain_At.f k bt191.1 a2_0 a2_1).bind fun bt195 => (if (bt195.2.2.2.2.2.2 == bt183.2.2.2.2.2.2) = true then (if (((bt195.1 == bt183.1 && (bt195.2.1 == bt183.2.1)) && ((bt195.2.2.1 == bt183.2.2.1 && (bt195.2.2.2.1 == bt183.2.2.2.1)) && (bt195.2.2.2.2.1.toList == bt183.2.2.2.2.1.toList && (bt195.2.2.2.2.2.1 == bt183.2.2.2.2.2.1)))) = true) then (dovecotelaw07_ChainSees.j0 k t178 bt183.2.2.2.2.2.2 a2_0 a2_1 a2_2 a2_3 bt183.1 bt183.2.1 bt183.2.2.1 bt183.2.2.2.1 bt183.2.2.2.2.1 bt183.2.2.2.2.2.1) else (if bt195.2.2.2.2.2.2 = true then (if (((bt195.1 == a1_0 && (bt195.2.1 == a1_1)) && ((bt195.2.2.1 == a1_2 && (bt195.2.2.2.1 == a1_3)) && (bt195.2.2.2.2.1.toList == a1_4.toList && (bt195.2.2.2.2.2.1 == a1_5)))) = true) then (dovecotelaw07_ChainSees.j0 k t178 bt183.2.2.2.2.2.2 a2_0 a2_1 a2_2 a2_3 bt183.1 bt183.2.1 bt183.2.2.1 bt183.2.2.2.1 bt183.2.2.2.2.1 bt183.2.2.2.2.2.1) else (some false)) else (some false))) else (if bt195.2.2.2.2.2.2 = true then (if (((bt195.1 == a1_0 && (bt195.2.1 == a1_1)) && ((bt195.2.2.1 == a1_2 && (bt195.2.2.2.1 == a1_3)) && (bt195.2.2.2.2.1.toList == a1_4.toList && (bt195.2.2.2.2.2.1 == a1_5)))) = true) then (dovecotelaw07_ChainSees.j0 k t178 bt183.2.2.2.2.2.2 a2_0 a2_1 a2_2 a2_3 bt183.1 bt183.2.1 bt183.2.2.1 bt183.2.2.2.1 bt183.2.2.2.2.1 bt183.2.2.2.2.2.1) else (some false)) else (some false)))) else (dovecotelaw07_ChainSees.j0 k t178 bt183.2.2.2.2.2.2 a2_0 a2_1 a2_2 a2_3 bt183.1 bt183.2.1 bt183.2.2.1 bt183.2.2.2.1 bt183.2.2.2.2.1 bt183.2.2.2.2.2.1)))))) else (some false))
theorem dovecotelaw07_ChainSees.mono_l : ∀ k, (∀ y0 y1 y2 y3 y4 y5 y6 y7 y8 y9 y10 y11, LeO (dovecotelaw07_ChainSees.j0 k y0 y1 y2 y3 y4 y5 y6 y7 y8 y9 y10 y11) (dovecotelaw07_ChainSees.j0 (k + 1) y0 y1 y2 y3 y4 y5 y6 y7 y8 y9 y10 y11)) ∧ (∀ y0 y1 y2 y3 y4 y5 y6 y7 y8 y9 y10 y11 y12, LeO (dovecotelaw07_ChainSees.j1 k y0 y1 y2 y3 y4 y5 y6 y7 y8 y9 y10 y11 y12) (dovecotelaw07_ChainSees.j1 (k + 1) y0 y1 y2 y3 y4 y5 y6 y7 y8 y9 y10 y11 y12))
  | 0 => ⟨fun _ _ _ _ _ _ _ _ _ _ _ _ r h => by simp [dovecotelaw07_ChainSees.j0] at h, fun _ _ _ _ _ _ _ _ _ _ _ _ _ r h => by simp [dovecotelaw07_ChainSees.j1] at h⟩
  | k + 1 => by
    obtain ⟨ih0, ih1⟩ := dovecotelaw07_ChainSees.mono_l k
    refine ⟨?_, ?_⟩
    · intro y0 y1 y2 y3 y4 y5 y6 y7 y8 y9 y10 y11
      unfold dovecotelaw07_ChainSees.j0
      repeat' first
      | (with_reducible exact ih0 _ _ _ _ _ _ _ _ _ _ _ _)
      | (with_reducible exact ih1 _ _ _ _ _ _ _ _ _ _ _ _ _)
      | (with_reducible exact chain_At.mono _ _ _ _)
      | (with_reducible exact chain_Prune.mono _ _ _ _)
      | (with_reducible exact chain_Put.mono _ _ _ _ _ _ _ _)
      | (with_reducible exact chain_Right.mono _ _)
      | (with_reducible exact dovecotelaw07_awake.mono _)
      | (with_reducible exact dovecotelaw07_built.mono _ _)
      | (with_reducible exact LeO.refl _)
      | (with_reducible exact LeO.none _)
      | (with_reducible refine LeO.ite ?_ ?_)
      | (with_reducible refine LeO.bind ?_ (fun _ => ?_))
      | exact ih0 _ _ _ _ _ _ _ _ _ _ _ _
      | exact ih1 _ _ _ _ _ _ _ _ _ _ _ _ _
      | exact chain_At.mono _ _ _ _
      | exact chain_Prune.mono _ _ _ _
      | exact chain_Put.mono _ _ _ _ _ _ _ _
      | exact chain_Right.mono _ _
      | exact dovecotelaw07_awake.mono _
      | exact dovecotelaw07_built.mono _ _
      | exact LeO.none _
      | refine LeO.ite ?_ ?_
      | refine LeO.bind ?_ (fun _ => ?_)
    · intro y0 y1 y2 y3 y4 y5 y6 y7 y8 y9 y10 y11 y12
      unfold dovecotelaw07_ChainSees.j1
      repeat' first
      | (with_reducible exact ih0 _ _ _ _ _ _ _ _ _ _ _ _)
      | (with_reducible exact ih1 _ _ _ _ _ _ _ _ _ _ _ _ _)
      | (with_reducible exact chain_At.mono _ _ _ _)
      | (with_reducible exact chain_Prune.mono _ _ _ _)
      | (with_reducible exact chain_Put.mono _ _ _ _ _ _ _ _)
      | (with_reducible exact chain_Right.mono _ _)
      | (with_reducible exact dovecotelaw07_awake.mono _)
      | (with_reducible exact dovecotelaw07_built.mono _ _)
      | (with_reducible exact LeO.refl _)
      | (with_reducible exact LeO.none _)
      | (with_reducible refine LeO.ite ?_ ?_)
      | (with_reducible refine LeO.bind ?_ (fun _ => ?_))
      | exact ih0 _ _ _ _ _ _ _ _ _ _ _ _
      | exact ih1 _ _ _ _ _ _ _ _ _ _ _ _ _
      | exact chain_At.mono _ _ _ _
      | exact chain_Prune.mono _ _ _ _
      | exact chain_Put.mono _ _ _ _ _ _ _ _
      | exact chain_Right.mono _ _
      | exact dovecotelaw07_awake.mono _
      | exact dovecotelaw07_built.mono _ _
      | exact LeO.none _
      | refine LeO.ite ?_ ?_
      | refine LeO.bind ?_ (fun _ => ?_)
theorem dovecotelaw07_ChainSees.mono : ∀ a0 a1 a2 a3 a4 a5 a6 a7 a8 a9 a10 k, LeO (dovecotelaw07_ChainSees.f k a0 a1 a2 a3 a4 a5 a6 a7 a8 a9 a10) (dovecotelaw07_ChainSees.f (k + 1) a0 a1 a2 a3 a4 a5 a6 a7 a8 a9 a10) := by
  intro a0 a1 a2 a3 a4 a5 a6 a7 a8 a9 a10 k
  obtain ⟨ih0, ih1⟩ := dovecotelaw07_ChainSees.mono_l k
  unfold dovecotelaw07_ChainSees.f
  repeat' first
      | (with_reducible exact ih0 _ _ _ _ _ _ _ _ _ _ _ _)
      | (with_reducible exact ih1 _ _ _ _ _ _ _ _ _ _ _ _ _)
      | (with_reducible exact chain_At.mono _ _ _ _)
      | (with_reducible exact chain_Prune.mono _ _ _ _)
      | (with_reducible exact chain_Put.mono _ _ _ _ _ _ _ _)
      | (with_reducible exact chain_Right.mono _ _)
      | (with_reducible exact dovecotelaw07_awake.mono _)
      | (with_reducible exact dovecotelaw07_built.mono _ _)
      | (with_reducible exact LeO.refl _)
      | (with_reducible exact LeO.none _)
      | (with_reducible refine LeO.ite ?_ ?_)
      | (with_reducible refine LeO.bind ?_ (fun _ => ?_))
      | exact ih0 _ _ _ _ _ _ _ _ _ _ _ _
      | exact ih1 _ _ _ _ _ _ _ _ _ _ _ _ _
      | exact chain_At.mono _ _ _ _
      | exact chain_Prune.mono _ _ _ _
      | exact chain_Put.mono _ _ _ _ _ _ _ _
      | exact chain_Right.mono _ _
      | exact dovecotelaw07_awake.mono _
      | exact dovecotelaw07_built.mono _ _
      | exact LeO.none _
      | refine LeO.ite ?_ ?_
      | refine LeO.bind ?_ (fun _ => ?_)
def dovecotelaw07_ChainSees.T6 : Bool × List (List Nat × List Nat) := (true, [([], []), ([0], [0]), ([], []), ([2], [2]), ([], []), ([], []), ([4, 1, 0, 1, 4, 5], [1, 4]), ([5, 3, 6, 0, 1, 2, 3, 4, 5, 6], [3, 5])])
def dovecotelaw07_ChainSees.B6 : List Nat := [0, 1, 0, 4, 0, 0, 51, 127]
theorem dovecotelaw07_ChainSees.tab6 : rtab .any (opsOf Try.f4 6) = dovecotelaw07_ChainSees.T6 := by kernel_rfl
theorem dovecotelaw07_ChainSees.bits6 : waitsOk dovecotelaw07_ChainSees.T6.2 dovecotelaw07_ChainSees.B6 = true := by kernel_rfl
def dovecotelaw07_ChainSees.T18 : Bool × List (List Nat × List Nat) := (true, [([], []), ([0], [0]), ([1], [1]), ([2, 1], [1, 2]), ([3, 1], [1, 3]), ([1, 4], [1, 4]), ([], []), ([6, 1], [6]), ([7], [7]), ([8, 7], [7, 8]), ([9, 7], [7, 9]), ([7, 10], [7, 10]), ([5, 7, 0, 1, 2, 3, 4, 5], [5]), ([11, 12, 0, 1, 2, 3, 4, 5, 6, 7, 8, 9, 10, 11, 12], [11])])
def dovecotelaw07_ChainSees.B18 : List Nat := [0, 1, 3, 7, 15, 31, 0, 67, 195, 451, 963, 1987, 255, 8191]
theorem dovecotelaw07_ChainSees.tab18 : rtab .any (opsOf Try.f4 18) = dovecotelaw07_ChainSees.T18 := by kernel_rfl
theorem dovecotelaw07_ChainSees.bits18 : waitsOk dovecotelaw07_ChainSees.T18.2 dovecotelaw07_ChainSees.B18 = true := by kernel_rfl
theorem dovecotelaw07_ChainSees.j1.no {k : Nat} {y0 : Bool} {y1 : List (S31)} {y3 : Int} {y4 : Int} {y5 : Int} {y6 : Int} {y7 : Int} {y8 : Int} {y9 : Int} {y10 : Int} {y11 : ByteArray} {y12 : Bool} {r : Bool} (h : dovecotelaw07_ChainSees.j1 k y0 y1 true y3 y4 y5 y6 y7 y8 y9 y10 y11 y12 = some r) (hr : r = true) : False := by
  subst hr
  cases k with
  | zero => simp [dovecotelaw07_ChainSees.j1] at h
  | succ k => simp [dovecotelaw07_ChainSees.j1] at h
set_option maxHeartbeats 8000000 in
set_option maxRecDepth 100000 in
theorem dovecotelaw07_ChainSees.callsR (k : Nat) (A0 : Option Addr) (c0 : Nat) (l0 : List (S31)) (a1_0 : Int) (a1_1 : Int) (a1_2 : Int) (a1_3 : Int) (a1_4 : ByteArray) (a1_5 : Bool) (a2_0 : Int) (a2_1 : Int) (a2_2 : Int) (a2_3 : Int) (r : Bool) (w : World) (hrt : Aside0 (r = true)) (hr0 : Kd.C k31 w A0 l0.length l0) (hc0 : l0.length ≤ c0) (h : dovecotelaw07_ChainSees.f k l0 a1_0 a1_1 a1_2 a1_3 a1_4 a1_5 a2_0 a2_1 a2_2 a2_3 = some r) :
    Calls Try.prog 4 #[.slice A0 l0.length c0, .agg #[.int .u64 a1_0, .int .u32 a1_1, .int .u32 a1_2, .int .u32 a1_3, .string a1_4, .bool a1_5], .agg #[.int .u64 a2_0, .int .u32 a2_1, .int .u64 a2_2, .int .u32 a2_3]] w fun e w' => e = .returned (.bool r) ∧ Below w.heap.size w w' := by
  have hu31 := Try.underlying31
  have hu35 := Try.underlying35
  have hu27 := Try.underlying27
  have HR0 := Aside0.mk hr0
  have HC0 := Aside0.mk hc0
  clear hr0 hc0
  have HB := Aside0.mk (Below.refl w.heap.size w)
  have H : ((dovecotelaw07_awake.f k).bind fun t177 => (if t177 = true then (if (l0.length : Int) > 60 then (some true) else ((dovecotelaw07_built.f k l0).bind fun t178 => ((chain_At.f k t178 a2_0 a2_1).bind fun bt183 => ((chain_Put.f k t178 a1_0 a1_1 a1_2 a1_3 a1_4 a1_5).bind fun bt191 => (if bt191.2 = 0 then ((chain_At.f k bt191.1 a2_0 a2_1).bind fun bt195 => (if (bt195.2.2.2.2.2.2 == bt183.2.2.2.2.2.2) = true then (if (((bt195.1 == bt183.1 && (bt195.2.1 == bt183.2.1)) && ((bt195.2.2.1 == bt183.2.2.1 && (bt195.2.2.2.1 == bt183.2.2.2.1)) && (bt195.2.2.2.2.1.toList == bt183.2.2.2.2.1.toList && (bt195.2.2.2.2.2.1 == bt183.2.2.2.2.2.1)))) = true) then (dovecotelaw07_ChainSees.j0 k t178 bt183.2.2.2.2.2.2 a2_0 a2_1 a2_2 a2_3 bt183.1 bt183.2.1 bt183.2.2.1 bt183.2.2.2.1 bt183.2.2.2.2.1 bt183.2.2.2.2.2.1) else (if bt195.2.2.2.2.2.2 = true then (if (((bt195.1 == a1_0 && (bt195.2.1 == a1_1)) && ((bt195.2.2.1 == a1_2 && (bt195.2.2.2.1 == a1_3)) && (bt195.2.2.2.2.1.toList == a1_4.toList && (bt195.2.2.2.2.2.1 == a1_5)))) = true) then (dovecotelaw07_ChainSees.j0 k t178 bt183.2.2.2.2.2.2 a2_0 a2_1 a2_2 a2_3 bt183.1 bt183.2.1 bt183.2.2.1 bt183.2.2.2.1 bt183.2.2.2.2.1 bt183.2.2.2.2.2.1) else (some false)) else (some false))) else (if bt195.2.2.2.2.2.2 = true then (if (((bt195.1 == a1_0 && (bt195.2.1 == a1_1)) && ((bt195.2.2.1 == a1_2 && (bt195.2.2.2.1 == a1_3)) && (bt195.2.2.2.2.1.toList == a1_4.toList && (bt195.2.2.2.2.2.1 == a1_5)))) = true) then (dovecotelaw07_ChainSees.j0 k t178 bt183.2.2.2.2.2.2 a2_0 a2_1 a2_2 a2_3 bt183.1 bt183.2.1 bt183.2.2.1 bt183.2.2.2.1 bt183.2.2.2.2.1 bt183.2.2.2.2.2.1) else (some false)) else (some false)))) else (dovecotelaw07_ChainSees.j0 k t178 bt183.2.2.2.2.2.2 a2_0 a2_1 a2_2 a2_3 bt183.1 bt183.2.1 bt183.2.2.1 bt183.2.2.2.1 bt183.2.2.2.2.1 bt183.2.2.2.2.2.1)))))) else (some false))) = some r := h
  clear h
  replace H := Option.bind_eq_some_iff.mp H
  obtain ⟨t177, A40, H⟩ := H
  replace H : (if t177 = true then (if (l0.length : Int) > 60 then (some true) else ((dovecotelaw07_built.f k l0).bind fun t178 => ((chain_At.f k t178 a2_0 a2_1).bind fun bt183 => ((chain_Put.f k t178 a1_0 a1_1 a1_2 a1_3 a1_4 a1_5).bind fun bt191 => (if bt191.2 = 0 then ((chain_At.f k bt191.1 a2_0 a2_1).bind fun bt195 => (if (bt195.2.2.2.2.2.2 == bt183.2.2.2.2.2.2) = true then (if (((bt195.1 == bt183.1 && (bt195.2.1 == bt183.2.1)) && ((bt195.2.2.1 == bt183.2.2.1 && (bt195.2.2.2.1 == bt183.2.2.2.1)) && (bt195.2.2.2.2.1.toList == bt183.2.2.2.2.1.toList && (bt195.2.2.2.2.2.1 == bt183.2.2.2.2.2.1)))) = true) then (dovecotelaw07_ChainSees.j0 k t178 bt183.2.2.2.2.2.2 a2_0 a2_1 a2_2 a2_3 bt183.1 bt183.2.1 bt183.2.2.1 bt183.2.2.2.1 bt183.2.2.2.2.1 bt183.2.2.2.2.2.1) else (if bt195.2.2.2.2.2.2 = true then (if (((bt195.1 == a1_0 && (bt195.2.1 == a1_1)) && ((bt195.2.2.1 == a1_2 && (bt195.2.2.2.1 == a1_3)) && (bt195.2.2.2.2.1.toList == a1_4.toList && (bt195.2.2.2.2.2.1 == a1_5)))) = true) then (dovecotelaw07_ChainSees.j0 k t178 bt183.2.2.2.2.2.2 a2_0 a2_1 a2_2 a2_3 bt183.1 bt183.2.1 bt183.2.2.1 bt183.2.2.2.1 bt183.2.2.2.2.1 bt183.2.2.2.2.2.1) else (some false)) else (some false))) else (if bt195.2.2.2.2.2.2 = true then (if (((bt195.1 == a1_0 && (bt195.2.1 == a1_1)) && ((bt195.2.2.1 == a1_2 && (bt195.2.2.2.1 == a1_3)) && (bt195.2.2.2.2.1.toList == a1_4.toList && (bt195.2.2.2.2.2.1 == a1_5)))) = true) then (dovecotelaw07_ChainSees.j0 k t178 bt183.2.2.2.2.2.2 a2_0 a2_1 a2_2 a2_3 bt183.1 bt183.2.1 bt183.2.2.1 bt183.2.2.2.1 bt183.2.2.2.2.1 bt183.2.2.2.2.2.1) else (some false)) else (some false)))) else (dovecotelaw07_ChainSees.j0 k t178 bt183.2.2.2.2.2.2 a2_0 a2_1 a2_2 a2_3 bt183.1 bt183.2.1 bt183.2.2.1 bt183.2.2.2.1 bt183.2.2.2.2.1 bt183.2.2.2.2.2.1)))))) else (some false)) = some r := H
  have A4 := Aside0.mk A40
  clear A40
  by_cases c5 : t177 = true
  · subst c5
    have H1 : (if (l0.length : Int) > 60 then (some true) else ((dovecotelaw07_built.f k l0).bind fun t178 => ((chain_At.f k t178 a2_0 a2_1).bind fun bt183 => ((chain_Put.f k t178 a1_0 a1_1 a1_2 a1_3 a1_4 a1_5).bind fun bt191 => (if bt191.2 = 0 then ((chain_At.f k bt191.1 a2_0 a2_1).bind fun bt195 => (if (bt195.2.2.2.2.2.2 == bt183.2.2.2.2.2.2) = true then (if (((bt195.1 == bt183.1 && (bt195.2.1 == bt183.2.1)) && ((bt195.2.2.1 == bt183.2.2.1 && (bt195.2.2.2.1 == bt183.2.2.2.1)) && (bt195.2.2.2.2.1.toList == bt183.2.2.2.2.1.toList && (bt195.2.2.2.2.2.1 == bt183.2.2.2.2.2.1)))) = true) then (dovecotelaw07_ChainSees.j0 k t178 bt183.2.2.2.2.2.2 a2_0 a2_1 a2_2 a2_3 bt183.1 bt183.2.1 bt183.2.2.1 bt183.2.2.2.1 bt183.2.2.2.2.1 bt183.2.2.2.2.2.1) else (if bt195.2.2.2.2.2.2 = true then (if (((bt195.1 == a1_0 && (bt195.2.1 == a1_1)) && ((bt195.2.2.1 == a1_2 && (bt195.2.2.2.1 == a1_3)) && (bt195.2.2.2.2.1.toList == a1_4.toList && (bt195.2.2.2.2.2.1 == a1_5)))) = true) then (dovecotelaw07_ChainSees.j0 k t178 bt183.2.2.2.2.2.2 a2_0 a2_1 a2_2 a2_3 bt183.1 bt183.2.1 bt183.2.2.1 bt183.2.2.2.1 bt183.2.2.2.2.1 bt183.2.2.2.2.2.1) else (some false)) else (some false))) else (if bt195.2.2.2.2.2.2 = true then (if (((bt195.1 == a1_0 && (bt195.2.1 == a1_1)) && ((bt195.2.2.1 == a1_2 && (bt195.2.2.2.1 == a1_3)) && (bt195.2.2.2.2.1.toList == a1_4.toList && (bt195.2.2.2.2.2.1 == a1_5)))) = true) then (dovecotelaw07_ChainSees.j0 k t178 bt183.2.2.2.2.2.2 a2_0 a2_1 a2_2 a2_3 bt183.1 bt183.2.1 bt183.2.2.1 bt183.2.2.2.1 bt183.2.2.2.2.1 bt183.2.2.2.2.2.1) else (some false)) else (some false)))) else (dovecotelaw07_ChainSees.j0 k t178 bt183.2.2.2.2.2.2 a2_0 a2_1 a2_2 a2_3 bt183.1 bt183.2.1 bt183.2.2.1 bt183.2.2.2.1 bt183.2.2.2.2.1 bt183.2.2.2.2.2.1)))))) = some r := by rw [if_pos rfl] at H; exact H
    clear H
    have H := H1
    clear H1
    by_cases c6 : (l0.length : Int) > 60
    · rw [if_pos c6] at H
      have c6b0 : decide (60 < (l0.length : Int)) = true := decide_eq_true c6
      have c6b1 : decide (60 < l0.length) = true := decide_eq_true (by omega)
      clear c6
      obtain rfl := Option.some.inj H
      go_enter Try.func4, Try.ntmps4
      go_wp2_with (first | ((with_reducible refine gate_dst (N := 4) rfl ?_); (try (refine gate_guard (by rfl) ?_; dsimp only)); refine box_event ?hg (N := 4) ?hd (cs := #[.int .u64 a1_0, .int .u32 a1_1, .int .u32 a1_2, .int .u32 a1_3, .string a1_4, .bool a1_5]) (t := 31) ?hr ?_; (case hd => rfl); (case hg => rfl); (case hr => first | (go_simp; done) | (go_simp; rfl)); intro gb175 hg w7 hbox hb; have n0_ := Aside0.mk (below_step (by repeat (first | (with_reducible first | exact HB.out | apply below_alloc | apply pw_below_drewN | apply below_drew1) | exact HB.out)) hb); have n1_ := Aside0.mk (hbox); have n2_ := Aside0.mk ((by rw [hg]; exact (below_size (by repeat (first | (with_reducible first | exact HB.out | apply below_alloc | apply pw_below_drewN | apply below_drew1) | exact HB.out))) : w.heap.size ≤ gb175)); have n3_ := Aside0.mk ((by rw [hg]; exact (below_size (by repeat (first | (with_reducible first | exact HB.out | apply below_alloc | apply pw_below_drewN | apply below_drew1) | exact HB.out))) : w.heap.size ≤ gb175)); clear HB; have HB := n0_; have BK175 := n1_; have GW175 := n2_; have GE175 := n3_; clear n0_ n1_ n2_ n3_; clear hb hbox hg) | ((with_reducible refine gate_dst (N := 5) rfl ?_); (try (refine gate_guard (by rfl) ?_; dsimp only)); refine box_event ?hg (N := 5) ?hd (cs := #[.int .u64 a2_0, .int .u32 a2_1, .int .u64 a2_2, .int .u32 a2_3]) (t := 35) ?hr ?_; (case hd => rfl); (case hg => rfl); (case hr => first | (go_simp; done) | (go_simp; rfl)); intro gb176 hg w8 hbox hb; have n0_ := Aside0.mk (blk_below (g := gb175) (o := .cells #[.int .u64 a1_0, .int .u32 a1_1, .int .u32 a1_2, .int .u32 a1_3, .string a1_4, .bool a1_5] 31 (0, 0)) (by (with_reducible repeat (first | refine blk_drewN ?_ _ | refine blk_drew ?_ | refine blk_alloc ?_ _)); exact BK175.out) hb); have n1_ := Aside0.mk (below_step (by repeat (first | (with_reducible first | exact HB.out | apply below_alloc | apply pw_below_drewN | apply below_drew1 | refine below_set ?_ GE175.out) | exact HB.out)) hb); have n2_ := Aside0.mk (hbox); have n3_ := Aside0.mk ((by rw [hg]; exact (below_size (by repeat (first | (with_reducible first | exact HB.out | apply below_alloc | apply pw_below_drewN | apply below_drew1 | refine below_set ?_ GE175.out) | exact HB.out))) : w.heap.size ≤ gb176)); have n4_ := Aside0.mk ((by rw [hg]; exact (below_size (by repeat (first | (with_reducible first | exact HB.out | apply below_alloc | apply pw_below_drewN | apply below_drew1 | refine below_set ?_ GE175.out) | exact HB.out))) : w.heap.size ≤ gb176)); have n5_ := Aside0.mk ((by rw [hg]; exact Nat.ne_of_lt (blk_lt (g := gb175) (o := .cells #[.int .u64 a1_0, .int .u32 a1_1, .int .u32 a1_2, .int .u32 a1_3, .string a1_4, .bool a1_5] 31 (0, 0)) (by (with_reducible repeat (first | refine blk_drewN ?_ _ | refine blk_drew ?_ | refine blk_alloc ?_ _)); exact BK175.out)) : gb175 ≠ gb176)); have n6_ := Aside0.mk ((by rw [hg]; exact Nat.ne_of_gt (blk_lt (g := gb175) (o := .cells #[.int .u64 a1_0, .int .u32 a1_1, .int .u32 a1_2, .int .u32 a1_3, .string a1_4, .bool a1_5] 31 (0, 0)) (by (with_reducible repeat (first | refine blk_drewN ?_ _ | refine blk_drew ?_ | refine blk_alloc ?_ _)); exact BK175.out)) : gb176 ≠ gb175)); clear BK175; clear HB; have BK175 := n0_; have HB := n1_; have BK176 := n2_; have GW176 := n3_; have GE176 := n4_; have NB175_176 := n5_; have NB176_175 := n6_; clear n0_ n1_ n2_ n3_ n4_ n5_ n6_; clear hb hbox hg) | ((with_reducible refine gate_callee (f := 13) rfl ?_); refine goesL_ (some 21) rfl rfl Try.func13 (by kernel_rfl) rfl #[] rfl (by (try simp only [List.map_toArray, List.map_cons, List.map_nil]); first | done | rfl | (simp only [List.length_drop, List.length_take]; rfl)) ?_; (with_reducible refine (dovecotelaw07_awake.calls k  true _ A4.out).mono ?_); rintro e w9 ⟨rfl, hb⟩; refine ⟨_, rfl, ?_⟩; have n0_ := Aside0.mk (blk_below (g := gb175) (o := .cells #[.int .u64 a1_0, .int .u32 a1_1, .int .u32 a1_2, .int .u32 a1_3, .string a1_4, .bool a1_5] 31 (0, 0)) (by (with_reducible repeat (first | refine blk_drewN ?_ _ | refine blk_drew ?_ | refine blk_alloc ?_ _)); exact BK175.out) hb); have n1_ := Aside0.mk (blk_below (g := gb176) (o := .cells #[.int .u64 a2_0, .int .u32 a2_1, .int .u64 a2_2, .int .u32 a2_3] 35 (0, 0)) (by (with_reducible repeat (first | refine blk_drewN ?_ _ | refine blk_drew ?_ | refine blk_alloc ?_ _)); exact BK176.out) hb); have n2_ := Aside0.mk (below_step (by repeat (first | (with_reducible first | exact HB.out | apply below_alloc | apply pw_below_drewN | apply below_drew1 | refine below_set ?_ GE175.out | refine below_set ?_ GE176.out) | exact HB.out)) hb); clear BK175; clear BK176; clear HB; have BK175 := n0_; have BK176 := n1_; have HB := n2_; clear n0_ n1_ n2_; (try clear hb); (try clear hb2); (try clear hk); (try clear hi)))
      go_ret
      exact ⟨by first | rfl | (simp [errW_none, errW_some] <;> rfl) | (simp [*, errW_none, errW_some] <;> rfl), by repeat (first | (with_reducible first | exact HB.out | apply below_alloc | apply pw_below_drewN | apply below_drew1 | refine below_set ?_ GE175.out | refine below_set ?_ GE176.out) | exact HB.out)⟩
    · rw [if_neg c6] at H
      have c6b0 : decide (60 < (l0.length : Int)) = false := decide_eq_false c6
      have c6b1 : decide (60 < l0.length) = false := decide_eq_false (by omega)
      clear c6
      replace H := Option.bind_eq_some_iff.mp H
      obtain ⟨t178, A100, H⟩ := H
      replace H : ((chain_At.f k t178 a2_0 a2_1).bind fun bt183 => ((chain_Put.f k t178 a1_0 a1_1 a1_2 a1_3 a1_4 a1_5).bind fun bt191 => (if bt191.2 = 0 then ((chain_At.f k bt191.1 a2_0 a2_1).bind fun bt195 => (if (bt195.2.2.2.2.2.2 == bt183.2.2.2.2.2.2) = true then (if (((bt195.1 == bt183.1 && (bt195.2.1 == bt183.2.1)) && ((bt195.2.2.1 == bt183.2.2.1 && (bt195.2.2.2.1 == bt183.2.2.2.1)) && (bt195.2.2.2.2.1.toList == bt183.2.2.2.2.1.toList && (bt195.2.2.2.2.2.1 == bt183.2.2.2.2.2.1)))) = true) then (dovecotelaw07_ChainSees.j0 k t178 bt183.2.2.2.2.2.2 a2_0 a2_1 a2_2 a2_3 bt183.1 bt183.2.1 bt183.2.2.1 bt183.2.2.2.1 bt183.2.2.2.2.1 bt183.2.2.2.2.2.1) else (if bt195.2.2.2.2.2.2 = true then (if (((bt195.1 == a1_0 && (bt195.2.1 == a1_1)) && ((bt195.2.2.1 == a1_2 && (bt195.2.2.2.1 == a1_3)) && (bt195.2.2.2.2.1.toList == a1_4.toList && (bt195.2.2.2.2.2.1 == a1_5)))) = true) then (dovecotelaw07_ChainSees.j0 k t178 bt183.2.2.2.2.2.2 a2_0 a2_1 a2_2 a2_3 bt183.1 bt183.2.1 bt183.2.2.1 bt183.2.2.2.1 bt183.2.2.2.2.1 bt183.2.2.2.2.2.1) else (some false)) else (some false))) else (if bt195.2.2.2.2.2.2 = true then (if (((bt195.1 == a1_0 && (bt195.2.1 == a1_1)) && ((bt195.2.2.1 == a1_2 && (bt195.2.2.2.1 == a1_3)) && (bt195.2.2.2.2.1.toList == a1_4.toList && (bt195.2.2.2.2.2.1 == a1_5)))) = true) then (dovecotelaw07_ChainSees.j0 k t178 bt183.2.2.2.2.2.2 a2_0 a2_1 a2_2 a2_3 bt183.1 bt183.2.1 bt183.2.2.1 bt183.2.2.2.1 bt183.2.2.2.2.1 bt183.2.2.2.2.2.1) else (some false)) else (some false)))) else (dovecotelaw07_ChainSees.j0 k t178 bt183.2.2.2.2.2.2 a2_0 a2_1 a2_2 a2_3 bt183.1 bt183.2.1 bt183.2.2.1 bt183.2.2.2.1 bt183.2.2.2.2.1 bt183.2.2.2.2.2.1)))) = some r := H
      have A10 := Aside0.mk A100
      clear A100
      replace H := Option.bind_eq_some_iff.mp H
      obtain ⟨⟨t183, t184, t185, t186, t187, t188, t189⟩, A110, H⟩ := H
      replace H : ((chain_Put.f k t178 a1_0 a1_1 a1_2 a1_3 a1_4 a1_5).bind fun bt191 => (if bt191.2 = 0 then ((chain_At.f k bt191.1 a2_0 a2_1).bind fun bt195 => (if (bt195.2.2.2.2.2.2 == t189) = true then (if (((bt195.1 == t183 && (bt195.2.1 == t184)) && ((bt195.2.2.1 == t185 && (bt195.2.2.2.1 == t186)) && (bt195.2.2.2.2.1.toList == t187.toList && (bt195.2.2.2.2.2.1 == t188)))) = true) then (dovecotelaw07_ChainSees.j0 k t178 t189 a2_0 a2_1 a2_2 a2_3 t183 t184 t185 t186 t187 t188) else (if bt195.2.2.2.2.2.2 = true then (if (((bt195.1 == a1_0 && (bt195.2.1 == a1_1)) && ((bt195.2.2.1 == a1_2 && (bt195.2.2.2.1 == a1_3)) && (bt195.2.2.2.2.1.toList == a1_4.toList && (bt195.2.2.2.2.2.1 == a1_5)))) = true) then (dovecotelaw07_ChainSees.j0 k t178 t189 a2_0 a2_1 a2_2 a2_3 t183 t184 t185 t186 t187 t188) else (some false)) else (some false))) else (if bt195.2.2.2.2.2.2 = true then (if (((bt195.1 == a1_0 && (bt195.2.1 == a1_1)) && ((bt195.2.2.1 == a1_2 && (bt195.2.2.2.1 == a1_3)) && (bt195.2.2.2.2.1.toList == a1_4.toList && (bt195.2.2.2.2.2.1 == a1_5)))) = true) then (dovecotelaw07_ChainSees.j0 k t178 t189 a2_0 a2_1 a2_2 a2_3 t183 t184 t185 t186 t187 t188) else (some false)) else (some false)))) else (dovecotelaw07_ChainSees.j0 k t178 t189 a2_0 a2_1 a2_2 a2_3 t183 t184 t185 t186 t187 t188))) = some r := H
      have A11 := Aside0.mk A110
      clear A110
      replace H := Option.bind_eq_some_iff.mp H
      obtain ⟨⟨t191, t194⟩, A120, H⟩ := H
      replace H : (if t194 = 0 then ((chain_At.f k t191 a2_0 a2_1).bind fun bt195 => (if (bt195.2.2.2.2.2.2 == t189) = true then (if (((bt195.1 == t183 && (bt195.2.1 == t184)) && ((bt195.2.2.1 == t185 && (bt195.2.2.2.1 == t186)) && (bt195.2.2.2.2.1.toList == t187.toList && (bt195.2.2.2.2.2.1 == t188)))) = true) then (dovecotelaw07_ChainSees.j0 k t178 t189 a2_0 a2_1 a2_2 a2_3 t183 t184 t185 t186 t187 t188) else (if bt195.2.2.2.2.2.2 = true then (if (((bt195.1 == a1_0 && (bt195.2.1 == a1_1)) && ((bt195.2.2.1 == a1_2 && (bt195.2.2.2.1 == a1_3)) && (bt195.2.2.2.2.1.toList == a1_4.toList && (bt195.2.2.2.2.2.1 == a1_5)))) = true) then (dovecotelaw07_ChainSees.j0 k t178 t189 a2_0 a2_1 a2_2 a2_3 t183 t184 t185 t186 t187 t188) else (some false)) else (some false))) else (if bt195.2.2.2.2.2.2 = true then (if (((bt195.1 == a1_0 && (bt195.2.1 == a1_1)) && ((bt195.2.2.1 == a1_2 && (bt195.2.2.2.1 == a1_3)) && (bt195.2.2.2.2.1.toList == a1_4.toList && (bt195.2.2.2.2.2.1 == a1_5)))) = true) then (dovecotelaw07_ChainSees.j0 k t178 t189 a2_0 a2_1 a2_2 a2_3 t183 t184 t185 t186 t187 t188) else (some false)) else (some false)))) else (dovecotelaw07_ChainSees.j0 k t178 t189 a2_0 a2_1 a2_2 a2_3 t183 t184 t185 t186 t187 t188)) = some r := H
      have A12 := Aside0.mk A120
      clear A120
      have HC13 := Aside0.mk H
      clear H
      go_enter Try.func4, Try.ntmps4
      try go_wp2_with (first | ((with_reducible refine gate_dst (N := 4) rfl ?_); (try (refine gate_guard (by rfl) ?_; dsimp only)); refine box_event ?hg (N := 4) ?hd (cs := #[.int .u64 a1_0, .int .u32 a1_1, .int .u32 a1_2, .int .u32 a1_3, .string a1_4, .bool a1_5]) (t := 31) ?hr ?_; (case hd => rfl); (case hg => rfl); (case hr => first | (go_simp; done) | (go_simp; rfl)); intro gb175 hg w14 hbox hb; have n0_ := Aside0.mk (below_step (by repeat (first | (with_reducible first | exact HB.out | apply below_alloc | apply pw_below_drewN | apply below_drew1) | exact HB.out)) hb); have n1_ := Aside0.mk (hbox); have n2_ := Aside0.mk ((by rw [hg]; exact (below_size (by repeat (first | (with_reducible first | exact HB.out | apply below_alloc | apply pw_below_drewN | apply below_drew1) | exact HB.out))) : w.heap.size ≤ gb175)); have n3_ := Aside0.mk ((by rw [hg]; exact (below_size (by repeat (first | (with_reducible first | exact HB.out | apply below_alloc | apply pw_below_drewN | apply below_drew1) | exact HB.out))) : w.heap.size ≤ gb175)); clear HB; have HB := n0_; have BK175 := n1_; have GW175 := n2_; have GE175 := n3_; clear n0_ n1_ n2_ n3_; clear hb hbox hg) | ((with_reducible refine gate_dst (N := 5) rfl ?_); (try (refine gate_guard (by rfl) ?_; dsimp only)); refine box_event ?hg (N := 5) ?hd (cs := #[.int .u64 a2_0, .int .u32 a2_1, .int .u64 a2_2, .int .u32 a2_3]) (t := 35) ?hr ?_; (case hd => rfl); (case hg => rfl); (case hr => first | (go_simp; done) | (go_simp; rfl)); intro gb176 hg w15 hbox hb; have n0_ := Aside0.mk (blk_below (g := gb175) (o := .cells #[.int .u64 a1_0, .int .u32 a1_1, .int .u32 a1_2, .int .u32 a1_3, .string a1_4, .bool a1_5] 31 (0, 0)) (by (with_reducible repeat (first | refine blk_drewN ?_ _ | refine blk_drew ?_ | refine blk_alloc ?_ _)); exact BK175.out) hb); have n1_ := Aside0.mk (below_step (by repeat (first | (with_reducible first | exact HB.out | apply below_alloc | apply pw_below_drewN | apply below_drew1 | refine below_set ?_ GE175.out) | exact HB.out)) hb); have n2_ := Aside0.mk (hbox); have n3_ := Aside0.mk ((by rw [hg]; exact (below_size (by repeat (first | (with_reducible first | exact HB.out | apply below_alloc | apply pw_below_drewN | apply below_drew1 | refine below_set ?_ GE175.out) | exact HB.out))) : w.heap.size ≤ gb176)); have n4_ := Aside0.mk ((by rw [hg]; exact (below_size (by repeat (first | (with_reducible first | exact HB.out | apply below_alloc | apply pw_below_drewN | apply below_drew1 | refine below_set ?_ GE175.out) | exact HB.out))) : w.heap.size ≤ gb176)); have n5_ := Aside0.mk ((by rw [hg]; exact Nat.ne_of_lt (blk_lt (g := gb175) (o := .cells #[.int .u64 a1_0, .int .u32 a1_1, .int .u32 a1_2, .int .u32 a1_3, .string a1_4, .bool a1_5] 31 (0, 0)) (by (with_reducible repeat (first | refine blk_drewN ?_ _ | refine blk_drew ?_ | refine blk_alloc ?_ _)); exact BK175.out)) : gb175 ≠ gb176)); have n6_ := Aside0.mk ((by rw [hg]; exact Nat.ne_of_gt (blk_lt (g := gb175) (o := .cells #[.int .u64 a1_0, .int .u32 a1_1, .int .u32 a1_2, .int .u32 a1_3, .string a1_4, .bool a1_5] 31 (0, 0)) (by (with_reducible repeat (first | refine blk_drewN ?_ _ | refine blk_drew ?_ | refine blk_alloc ?_ _)); exact BK175.out)) : gb176 ≠ gb175)); clear BK175; clear HB; have BK175 := n0_; have HB := n1_; have BK176 := n2_; have GW176 := n3_; have GE176 := n4_; have NB175_176 := n5_; have NB176_175 := n6_; clear n0_ n1_ n2_ n3_ n4_ n5_ n6_; clear hb hbox hg) | ((with_reducible refine gate_callee (f := 13) rfl ?_); refine goesL_ (some 21) rfl rfl Try.func13 (by kernel_rfl) rfl #[] rfl (by (try simp only [List.map_toArray, List.map_cons, List.map_nil]); first | done | rfl | (simp only [List.length_drop, List.length_take]; rfl)) ?_; (with_reducible refine (dovecotelaw07_awake.calls k  true _ A4.out).mono ?_); rintro e w16 ⟨rfl, hb⟩; refine ⟨_, rfl, ?_⟩; have n0_ := Aside0.mk (blk_below (g := gb175) (o := .cells #[.int .u64 a1_0, .int .u32 a1_1, .int .u32 a1_2, .int .u32 a1_3, .string a1_4, .bool a1_5] 31 (0, 0)) (by (with_reducible repeat (first | refine blk_drewN ?_ _ | refine blk_drew ?_ | refine blk_alloc ?_ _)); exact BK175.out) hb); have n1_ := Aside0.mk (blk_below (g := gb176) (o := .cells #[.int .u64 a2_0, .int .u32 a2_1, .int .u64 a2_2, .int .u32 a2_3] 35 (0, 0)) (by (with_reducible repeat (first | refine blk_drewN ?_ _ | refine blk_drew ?_ | refine blk_alloc ?_ _)); exact BK176.out) hb); have n2_ := Aside0.mk (below_step (by repeat (first | (with_reducible first | exact HB.out | apply below_alloc | apply pw_below_drewN | apply below_drew1 | refine below_set ?_ GE175.out | refine below_set ?_ GE176.out) | exact HB.out)) hb); clear BK175; clear BK176; clear HB; have BK175 := n0_; have BK176 := n1_; have HB := n2_; clear n0_ n1_ n2_; (try clear hb); (try clear hb2); (try clear hk); (try clear hi)) | ((with_reducible refine gate_callee (f := 15) rfl ?_); refine goesL_ (some 27) rfl rfl Try.func15 (by kernel_rfl) rfl #[.slice A0 l0.length c0] rfl (by (try simp only [List.map_toArray, List.map_cons, List.map_nil]); first | done | rfl | (simp only [List.length_drop, List.length_take]; rfl)) ?_; (with_reducible refine (dovecotelaw07_built.calls k _ _ l0 t178 _ ?side1 ?side2 A10.out).mono ?_); (case side1 => repeat (first | exact (Kd.C_below HR0.out HB.out) | (with_reducible refine Kd.C_alloc ?_ _) | (with_reducible refine Kd.C_drewN ?_ _) | (with_reducible refine Kd.C_drew ?_))); (case side2 => exact HC0.out); rintro e w17 ⟨v179, rfl, ho0, hb⟩; refine ⟨_, rfl, ?_⟩; have n0_ := Aside0.mk (Kd.R_lower (Kd.R_newB ho0 (g := gb175) (o := .cells #[.int .u64 a1_0, .int .u32 a1_1, .int .u32 a1_2, .int .u32 a1_3, .string a1_4, .bool a1_5] 31 (0, 0)) (by (with_reducible repeat (first | refine blk_drewN ?_ _ | refine blk_drew ?_ | refine blk_alloc ?_ _)); exact BK175.out)) (below_size (by repeat (first | (with_reducible first | exact HB.out | apply below_alloc | apply pw_below_drewN | apply below_drew1 | refine below_set ?_ GE175.out | refine below_set ?_ GE176.out) | exact HB.out)))); have n1_ := Aside0.mk (blk_below (g := gb175) (o := .cells #[.int .u64 a1_0, .int .u32 a1_1, .int .u32 a1_2, .int .u32 a1_3, .string a1_4, .bool a1_5] 31 (0, 0)) (by (with_reducible repeat (first | refine blk_drewN ?_ _ | refine blk_drew ?_ | refine blk_alloc ?_ _)); exact BK175.out) hb); have n2_ := Aside0.mk (blk_below (g := gb176) (o := .cells #[.int .u64 a2_0, .int .u32 a2_1, .int .u64 a2_2, .int .u32 a2_3] 35 (0, 0)) (by (with_reducible repeat (first | refine blk_drewN ?_ _ | refine blk_drew ?_ | refine blk_alloc ?_ _)); exact BK176.out) hb); have n3_ := Aside0.mk (below_step (by repeat (first | (with_reducible first | exact HB.out | apply below_alloc | apply pw_below_drewN | apply below_drew1 | refine below_set ?_ GE175.out | refine below_set ?_ GE176.out) | exact HB.out)) hb); clear BK175; clear BK176; clear HB; have HO180 := n0_; have BK175 := n1_; have BK176 := n2_; have HB := n3_; clear n0_ n1_ n2_ n3_; (try clear hb); (try clear hb2); (try clear hk); (try clear hi); (try clear ho0)))
      have n0_ := Aside0.mk (Kd.R_drew HO180.out)
      have n1_ := Aside0.mk (blk_drew BK175.out)
      have n2_ := Aside0.mk (blk_drew BK176.out)
      have n3_ := Aside0.mk (below_drew1 HB.out)
      clear HO180
      clear BK175
      clear BK176
      clear HB
      have HO180 := n0_
      have BK175 := n1_
      have BK176 := n2_
      have HB := n3_
      clear n0_ n1_ n2_ n3_
      refine start_ (n := 8) (S := fun w' => w'.cell? ⟨gb176, 0, none⟩ = some (.int .u64 a2_0) ∧ w'.cell? ⟨gb176, 1, none⟩ = some (.int .u32 a2_1) ∧ w'.cell? ⟨gb176, 2, none⟩ = some (.int .u64 a2_2) ∧ w'.cell? ⟨gb176, 3, none⟩ = some (.int .u32 a2_3)) (ds := []) #[false, false, false, false, false, false, false, false] (by kernel_rfl) rfl rfl ⟨(blk_cell BK176.out 0).trans rfl, (blk_cell BK176.out 1).trans rfl, (blk_cell BK176.out 2).trans rfl, (blk_cell BK176.out 3).trans rfl⟩ (fun hHeld => ?_); refine with_tabW dovecotelaw07_ChainSees.tab6 dovecotelaw07_ChainSees.bits6 (fun HT_ HW_ => ?_)
      generalize w17.drew = w18 at HO180 BK175 BK176 HB hHeld ⊢
      refine pure_ (i := 0) (N := some 28) (v := ?_) (a' := ?_) #[true, false, false, false, false, false, false, false] rfl rfl (any_of HT_.out (by kernel_rfl)) (fun _ _ _ h => h) (Or.inl ⟨by rfl, ?_⟩) ?_ ?_
      rotate_left
      · intro w'
        go_simp
        with_reducible rfl
      rotate_left
      · simp only [Act.put, List.setIfInBounds_toArray, List.set_cons_zero, List.set_cons_succ, i64_w, i32_w]
        rfl
      refine pure_ (i := 2) (N := some 30) (v := ?_) (a' := ?_) #[true, false, true, false, false, false, false, false] rfl rfl (any_of HT_.out (by kernel_rfl)) (fun _ _ _ h => h) (Or.inl ⟨by rfl, ?_⟩) ?_ ?_
      rotate_left
      · intro w'
        go_simp
        with_reducible rfl
      rotate_left
      · simp only [Act.put, List.setIfInBounds_toArray, List.set_cons_zero, List.set_cons_succ, i64_w, i32_w]
        rfl
      refine take_ (i := 1) (N := some 29) (v := ?_) (a' := ?_) #[true, true, true, false, false, false, false, false] rfl rfl (take_ofW HT_.out HW_.out (by kernel_rfl)) (fun _ _ _ h => h) (Or.inl ⟨by rfl, ?_⟩) hHeld ?_ ?_
      rotate_left
      · rintro w' ⟨s0, s1, s2, s3⟩
        go_simp
        with_reducible rfl
      rotate_left
      · simp only [Act.put, List.setIfInBounds_toArray, List.set_cons_zero, List.set_cons_succ, i64_w, i32_w]
        rfl
      refine take_ (i := 3) (N := some 31) (v := ?_) (a' := ?_) #[true, true, true, true, false, false, false, false] rfl rfl (take_ofW HT_.out HW_.out (by kernel_rfl)) (fun _ _ _ h => h) (Or.inl ⟨by rfl, ?_⟩) hHeld ?_ ?_
      rotate_left
      · rintro w' ⟨s0, s1, s2, s3⟩
        go_simp
        with_reducible rfl
      rotate_left
      · simp only [Act.put, List.setIfInBounds_toArray, List.set_cons_zero, List.set_cons_succ, i64_w, i32_w]
        rfl
      refine join_ (σ := Nat × Nat) 2 #[true, true, true, true, true, true, false, false] (fun s_ => [(8, .pointer (some ⟨s_.1, 0, none⟩)), (9, .pointer (some ⟨s_.2, 0, none⟩))]) (fun s_ w' => (w'.cell? ⟨gb176, 0, none⟩ = some (.int .u64 a2_0) ∧ w'.cell? ⟨gb176, 1, none⟩ = some (.int .u32 a2_1) ∧ w'.cell? ⟨gb176, 2, none⟩ = some (.int .u64 a2_2) ∧ w'.cell? ⟨gb176, 3, none⟩ = some (.int .u32 a2_3)) ∧ (Kd.R k31 31 w' w.heap.size (fun k_ => k_ ≠ gb175) v179 t178) ∧ (w'.heap[gb175]? = some (.cells #[.int .u64 a1_0, .int .u32 a1_1, .int .u32 a1_2, .int .u32 a1_3, .string a1_4, .bool a1_5] 31 (0, 0))) ∧ (w'.heap[gb176]? = some (.cells #[.int .u64 a2_0, .int .u32 a2_1, .int .u64 a2_2, .int .u32 a2_3] 35 (0, 0))) ∧ (w'.heap[s_.1]? = some (.cells #[.int .u64 0, .int .u32 0] 27 (0, 0))) ∧ (w'.heap[s_.2]? = some (.cells #[.int .u64 0, .int .u32 0] 27 (0, 0))) ∧ (w.heap.size ≤ s_.1) ∧ (w.heap.size ≤ s_.1) ∧ (gb175 ≠ s_.1) ∧ (s_.1 ≠ gb175) ∧ (gb176 ≠ s_.1) ∧ (s_.1 ≠ gb176) ∧ (s_.2 ≠ s_.1) ∧ (s_.1 ≠ s_.2) ∧ (w.heap.size ≤ s_.2) ∧ (w.heap.size ≤ s_.2) ∧ (gb175 ≠ s_.2) ∧ (s_.2 ≠ gb175) ∧ (gb176 ≠ s_.2) ∧ (s_.2 ≠ gb176) ∧ (Below w.heap.size w w')) ?_ ?_
      rotate_left
      · intro hCont
        refine two_ (i := 4) (j := 5) (Ni := some 8) (Nj := some 9) #[true, true, true, true, true, false, false, false] #[true, true, true, true, false, true, false, false] rfl rfl rfl rfl (two_of HT_.out (by kernel_rfl)) (by decide) (by decide) (fun K hK => ?_) (fun K hK => ?_)
        · skip
          refine box_step ?hg (N := 8) ?hd (cs := #[.int .u64 0, .int .u32 0]) (t := 27) ?hr ?_; (case hd => rfl); (case hg => rfl); (case hr => first | (go_simp; done) | (go_simp; rfl))
          intro gb181 hg w19 hbox hb
          have n0_ := Aside0.mk (Kd.R_below (by (with_reducible repeat (first | apply Kd.R_alloc | apply Kd.R_drewN | apply Kd.R_drew)); exact HO180.out) hb)
          have n1_ := Aside0.mk (blk_below (g := gb175) (o := .cells #[.int .u64 a1_0, .int .u32 a1_1, .int .u32 a1_2, .int .u32 a1_3, .string a1_4, .bool a1_5] 31 (0, 0)) (by (with_reducible repeat (first | refine blk_drewN ?_ _ | refine blk_drew ?_ | refine blk_alloc ?_ _)); exact BK175.out) hb)
          have n2_ := Aside0.mk (blk_below (g := gb176) (o := .cells #[.int .u64 a2_0, .int .u32 a2_1, .int .u64 a2_2, .int .u32 a2_3] 35 (0, 0)) (by (with_reducible repeat (first | refine blk_drewN ?_ _ | refine blk_drew ?_ | refine blk_alloc ?_ _)); exact BK176.out) hb)
          have n3_ := Aside0.mk (below_step (by repeat (first | (with_reducible first | exact HB.out | apply below_alloc | apply pw_below_drewN | apply below_drew1 | refine below_set ?_ GE175.out | refine below_set ?_ GE176.out) | exact HB.out)) hb)
          have n4_ := Aside0.mk (hbox)
          have n5_ := Aside0.mk ((by rw [hg]; exact (below_size (by repeat (first | (with_reducible first | exact HB.out | apply below_alloc | apply pw_below_drewN | apply below_drew1 | refine below_set ?_ GE175.out | refine below_set ?_ GE176.out) | exact HB.out))) : w.heap.size ≤ gb181))
          have n6_ := Aside0.mk ((by rw [hg]; exact (below_size (by repeat (first | (with_reducible first | exact HB.out | apply below_alloc | apply pw_below_drewN | apply below_drew1 | refine below_set ?_ GE175.out | refine below_set ?_ GE176.out) | exact HB.out))) : w.heap.size ≤ gb181))
          have n7_ := Aside0.mk ((by rw [hg]; exact Nat.ne_of_lt (blk_lt (g := gb175) (o := .cells #[.int .u64 a1_0, .int .u32 a1_1, .int .u32 a1_2, .int .u32 a1_3, .string a1_4, .bool a1_5] 31 (0, 0)) (by (with_reducible repeat (first | refine blk_drewN ?_ _ | refine blk_drew ?_ | refine blk_alloc ?_ _)); exact BK175.out)) : gb175 ≠ gb181))
          have n8_ := Aside0.mk ((by rw [hg]; exact Nat.ne_of_gt (blk_lt (g := gb175) (o := .cells #[.int .u64 a1_0, .int .u32 a1_1, .int .u32 a1_2, .int .u32 a1_3, .string a1_4, .bool a1_5] 31 (0, 0)) (by (with_reducible repeat (first | refine blk_drewN ?_ _ | refine blk_drew ?_ | refine blk_alloc ?_ _)); exact BK175.out)) : gb181 ≠ gb175))
          have n9_ := Aside0.mk ((by rw [hg]; exact Nat.ne_of_lt (blk_lt (g := gb176) (o := .cells #[.int .u64 a2_0, .int .u32 a2_1, .int .u64 a2_2, .int .u32 a2_3] 35 (0, 0)) (by (with_reducible repeat (first | refine blk_drewN ?_ _ | refine blk_drew ?_ | refine blk_alloc ?_ _)); exact BK176.out)) : gb176 ≠ gb181))
          have n10_ := Aside0.mk ((by rw [hg]; exact Nat.ne_of_gt (blk_lt (g := gb176) (o := .cells #[.int .u64 a2_0, .int .u32 a2_1, .int .u64 a2_2, .int .u32 a2_3] 35 (0, 0)) (by (with_reducible repeat (first | refine blk_drewN ?_ _ | refine blk_drew ?_ | refine blk_alloc ?_ _)); exact BK176.out)) : gb181 ≠ gb176))
          clear HO180
          clear BK175
          clear BK176
          clear HB
          have HO180 := n0_
          have BK175 := n1_
          have BK176 := n2_
          have HB := n3_
          have BK181 := n4_
          have GW181 := n5_
          have GE181 := n6_
          have NB175_181 := n7_
          have NB181_175 := n8_
          have NB176_181 := n9_
          have NB181_176 := n10_
          clear n0_ n1_ n2_ n3_ n4_ n5_ n6_ n7_ n8_ n9_ n10_
          clear hb hbox hg
          refine hK.out _ _ ⟨(blk_cell BK176.out 0).trans rfl, (blk_cell BK176.out 1).trans rfl, (blk_cell BK176.out 2).trans rfl, (blk_cell BK176.out 3).trans rfl⟩ (fun hHeld => ?_)
          clear hK K
          refine norm_ (a' := ?_) ?_ ?_
          rotate_left
          · show Act.put _ (some 8) _ = _
            simp only [Act.put, List.setIfInBounds_toArray, List.set_cons_zero, List.set_cons_succ, i64_w, i32_w]
            rfl
          refine one_ (i := 5) (N := some 9) #[true, true, true, true, true, true, false, false] rfl rfl (one_of HT_.out (by kernel_rfl)) (by decide) (fun K hK => ?_)
          refine box_step ?hg (N := 9) ?hd (cs := #[.int .u64 0, .int .u32 0]) (t := 27) ?hr ?_; (case hd => rfl); (case hg => rfl); (case hr => first | (go_simp; done) | (go_simp; rfl))
          intro gb182 hg w20 hbox hb
          have n0_ := Aside0.mk (Kd.R_below (by (with_reducible repeat (first | apply Kd.R_alloc | apply Kd.R_drewN | apply Kd.R_drew)); exact HO180.out) hb)
          have n1_ := Aside0.mk (blk_below (g := gb175) (o := .cells #[.int .u64 a1_0, .int .u32 a1_1, .int .u32 a1_2, .int .u32 a1_3, .string a1_4, .bool a1_5] 31 (0, 0)) (by (with_reducible repeat (first | refine blk_drewN ?_ _ | refine blk_drew ?_ | refine blk_alloc ?_ _)); exact BK175.out) hb)
          have n2_ := Aside0.mk (blk_below (g := gb176) (o := .cells #[.int .u64 a2_0, .int .u32 a2_1, .int .u64 a2_2, .int .u32 a2_3] 35 (0, 0)) (by (with_reducible repeat (first | refine blk_drewN ?_ _ | refine blk_drew ?_ | refine blk_alloc ?_ _)); exact BK176.out) hb)
          have n3_ := Aside0.mk (blk_below (g := gb181) (o := .cells #[.int .u64 0, .int .u32 0] 27 (0, 0)) (by (with_reducible repeat (first | refine blk_drewN ?_ _ | refine blk_drew ?_ | refine blk_alloc ?_ _)); exact BK181.out) hb)
          have n4_ := Aside0.mk (below_step (by repeat (first | (with_reducible first | exact HB.out | apply below_alloc | apply pw_below_drewN | apply below_drew1 | refine below_set ?_ GE175.out | refine below_set ?_ GE176.out | refine below_set ?_ GE181.out) | exact HB.out)) hb)
          have n5_ := Aside0.mk (hbox)
          have n6_ := Aside0.mk ((by rw [hg]; exact (below_size (by repeat (first | (with_reducible first | exact HB.out | apply below_alloc | apply pw_below_drewN | apply below_drew1 | refine below_set ?_ GE175.out | refine below_set ?_ GE176.out | refine below_set ?_ GE181.out) | exact HB.out))) : w.heap.size ≤ gb182))
          have n7_ := Aside0.mk ((by rw [hg]; exact (below_size (by repeat (first | (with_reducible first | exact HB.out | apply below_alloc | apply pw_below_drewN | apply below_drew1 | refine below_set ?_ GE175.out | refine below_set ?_ GE176.out | refine below_set ?_ GE181.out) | exact HB.out))) : w.heap.size ≤ gb182))
          have n8_ := Aside0.mk ((by rw [hg]; exact Nat.ne_of_lt (blk_lt (g := gb175) (o := .cells #[.int .u64 a1_0, .int .u32 a1_1, .int .u32 a1_2, .int .u32 a1_3, .string a1_4, .bool a1_5] 31 (0, 0)) (by (with_reducible repeat (first | refine blk_drewN ?_ _ | refine blk_drew ?_ | refine blk_alloc ?_ _)); exact BK175.out)) : gb175 ≠ gb182))
          have n9_ := Aside0.mk ((by rw [hg]; exact Nat.ne_of_gt (blk_lt (g := gb175) (o := .cells #[.int .u64 a1_0, .int .u32 a1_1, .int .u32 a1_2, .int .u32 a1_3, .string a1_4, .bool a1_5] 31 (0, 0)) (by (with_reducible repeat (first | refine blk_drewN ?_ _ | refine blk_drew ?_ | refine blk_alloc ?_ _)); exact BK175.out)) : gb182 ≠ gb175))
          have n10_ := Aside0.mk ((by rw [hg]; exact Nat.ne_of_lt (blk_lt (g := gb176) (o := .cells #[.int .u64 a2_0, .int .u32 a2_1, .int .u64 a2_2, .int .u32 a2_3] 35 (0, 0)) (by (with_reducible repeat (first | refine blk_drewN ?_ _ | refine blk_drew ?_ | refine blk_alloc ?_ _)); exact BK176.out)) : gb176 ≠ gb182))
          have n11_ := Aside0.mk ((by rw [hg]; exact Nat.ne_of_gt (blk_lt (g := gb176) (o := .cells #[.int .u64 a2_0, .int .u32 a2_1, .int .u64 a2_2, .int .u32 a2_3] 35 (0, 0)) (by (with_reducible repeat (first | refine blk_drewN ?_ _ | refine blk_drew ?_ | refine blk_alloc ?_ _)); exact BK176.out)) : gb182 ≠ gb176))
          have n12_ := Aside0.mk ((by rw [hg]; exact Nat.ne_of_lt (blk_lt (g := gb181) (o := .cells #[.int .u64 0, .int .u32 0] 27 (0, 0)) (by (with_reducible repeat (first | refine blk_drewN ?_ _ | refine blk_drew ?_ | refine blk_alloc ?_ _)); exact BK181.out)) : gb181 ≠ gb182))
          have n13_ := Aside0.mk ((by rw [hg]; exact Nat.ne_of_gt (blk_lt (g := gb181) (o := .cells #[.int .u64 0, .int .u32 0] 27 (0, 0)) (by (with_reducible repeat (first | refine blk_drewN ?_ _ | refine blk_drew ?_ | refine blk_alloc ?_ _)); exact BK181.out)) : gb182 ≠ gb181))
          clear HO180
          clear BK175
          clear BK176
          clear BK181
          clear HB
          have HO180 := n0_
          have BK175 := n1_
          have BK176 := n2_
          have BK181 := n3_
          have HB := n4_
          have BK182 := n5_
          have GW182 := n6_
          have GE182 := n7_
          have NB175_182 := n8_
          have NB182_175 := n9_
          have NB176_182 := n10_
          have NB182_176 := n11_
          have NB181_182 := n12_
          have NB182_181 := n13_
          clear n0_ n1_ n2_ n3_ n4_ n5_ n6_ n7_ n8_ n9_ n10_ n11_ n12_ n13_
          clear hb hbox hg
          refine hK.out _ _ ⟨(blk_cell BK176.out 0).trans rfl, (blk_cell BK176.out 1).trans rfl, (blk_cell BK176.out 2).trans rfl, (blk_cell BK176.out 3).trans rfl⟩ (fun hHeld => ?_)
          clear hK K
          refine norm_ (a' := ?_) ?_ ?_
          rotate_left
          · show Act.put _ (some 9) _ = _
            simp only [Act.put, List.setIfInBounds_toArray, List.set_cons_zero, List.set_cons_succ, i64_w, i32_w]
            rfl
          exact norm_ (by simp only [putAll, Act.put, List.setIfInBounds_toArray, List.set_cons_zero, List.set_cons_succ]) (hCont (gb181, gb182) _ ⟨hHeld, (by (with_reducible repeat (first | apply Kd.R_alloc | apply Kd.R_drewN | apply Kd.R_drew)); exact Kd.R_mono HO180.out (fun _ hk => hk.2)), (by (with_reducible repeat (first | refine blk_drewN ?_ _ | refine blk_drew ?_ | refine blk_alloc ?_ _)); exact BK175.out), (by (with_reducible repeat (first | refine blk_drewN ?_ _ | refine blk_drew ?_ | refine blk_alloc ?_ _)); exact BK176.out), (by (with_reducible repeat (first | refine blk_drewN ?_ _ | refine blk_drew ?_ | refine blk_alloc ?_ _)); exact BK181.out), (by (with_reducible repeat (first | refine blk_drewN ?_ _ | refine blk_drew ?_ | refine blk_alloc ?_ _)); exact BK182.out), GW181.out, GE181.out, NB175_181.out, NB181_175.out, NB176_181.out, NB181_176.out, NB182_181.out, NB181_182.out, GW182.out, GE182.out, NB175_182.out, NB182_175.out, NB176_182.out, NB182_176.out, (by repeat (first | (with_reducible first | exact HB.out | apply below_alloc | apply pw_below_drewN | apply below_drew1 | refine below_set ?_ GE175.out | refine below_set ?_ GE176.out | refine below_set ?_ GE181.out | refine below_set ?_ GE182.out) | exact HB.out))⟩)
        · skip
          refine box_step ?hg (N := 9) ?hd (cs := #[.int .u64 0, .int .u32 0]) (t := 27) ?hr ?_; (case hd => rfl); (case hg => rfl); (case hr => first | (go_simp; done) | (go_simp; rfl))
          intro gb182 hg w19 hbox hb
          have n0_ := Aside0.mk (Kd.R_below (by (with_reducible repeat (first | apply Kd.R_alloc | apply Kd.R_drewN | apply Kd.R_drew)); exact HO180.out) hb)
          have n1_ := Aside0.mk (blk_below (g := gb175) (o := .cells #[.int .u64 a1_0, .int .u32 a1_1, .int .u32 a1_2, .int .u32 a1_3, .string a1_4, .bool a1_5] 31 (0, 0)) (by (with_reducible repeat (first | refine blk_drewN ?_ _ | refine blk_drew ?_ | refine blk_alloc ?_ _)); exact BK175.out) hb)
          have n2_ := Aside0.mk (blk_below (g := gb176) (o := .cells #[.int .u64 a2_0, .int .u32 a2_1, .int .u64 a2_2, .int .u32 a2_3] 35 (0, 0)) (by (with_reducible repeat (first | refine blk_drewN ?_ _ | refine blk_drew ?_ | refine blk_alloc ?_ _)); exact BK176.out) hb)
          have n3_ := Aside0.mk (below_step (by repeat (first | (with_reducible first | exact HB.out | apply below_alloc | apply pw_below_drewN | apply below_drew1 | refine below_set ?_ GE175.out | refine below_set ?_ GE176.out) | exact HB.out)) hb)
          have n4_ := Aside0.mk (hbox)
          have n5_ := Aside0.mk ((by rw [hg]; exact (below_size (by repeat (first | (with_reducible first | exact HB.out | apply below_alloc | apply pw_below_drewN | apply below_drew1 | refine below_set ?_ GE175.out | refine below_set ?_ GE176.out) | exact HB.out))) : w.heap.size ≤ gb182))
          have n6_ := Aside0.mk ((by rw [hg]; exact (below_size (by repeat (first | (with_reducible first | exact HB.out | apply below_alloc | apply pw_below_drewN | apply below_drew1 | refine below_set ?_ GE175.out | refine below_set ?_ GE176.out) | exact HB.out))) : w.heap.size ≤ gb182))
          have n7_ := Aside0.mk ((by rw [hg]; exact Nat.ne_of_lt (blk_lt (g := gb175) (o := .cells #[.int .u64 a1_0, .int .u32 a1_1, .int .u32 a1_2, .int .u32 a1_3, .string a1_4, .bool a1_5] 31 (0, 0)) (by (with_reducible repeat (first | refine blk_drewN ?_ _ | refine blk_drew ?_ | refine blk_alloc ?_ _)); exact BK175.out)) : gb175 ≠ gb182))
          have n8_ := Aside0.mk ((by rw [hg]; exact Nat.ne_of_gt (blk_lt (g := gb175) (o := .cells #[.int .u64 a1_0, .int .u32 a1_1, .int .u32 a1_2, .int .u32 a1_3, .string a1_4, .bool a1_5] 31 (0, 0)) (by (with_reducible repeat (first | refine blk_drewN ?_ _ | refine blk_drew ?_ | refine blk_alloc ?_ _)); exact BK175.out)) : gb182 ≠ gb175))
          have n9_ := Aside0.mk ((by rw [hg]; exact Nat.ne_of_lt (blk_lt (g := gb176) (o := .cells #[.int .u64 a2_0, .int .u32 a2_1, .int .u64 a2_2, .int .u32 a2_3] 35 (0, 0)) (by (with_reducible repeat (first | refine blk_drewN ?_ _ | refine blk_drew ?_ | refine blk_alloc ?_ _)); exact BK176.out)) : gb176 ≠ gb182))
          have n10_ := Aside0.mk ((by rw [hg]; exact Nat.ne_of_gt (blk_lt (g := gb176) (o := .cells #[.int .u64 a2_0, .int .u32 a2_1, .int .u64 a2_2, .int .u32 a2_3] 35 (0, 0)) (by (with_reducible repeat (first | refine blk_drewN ?_ _ | refine blk_drew ?_ | refine blk_alloc ?_ _)); exact BK176.out)) : gb182 ≠ gb176))
          clear HO180
          clear BK175
          clear BK176
          clear HB
          have HO180 := n0_
          have BK175 := n1_
          have BK176 := n2_
          have HB := n3_
          have BK182 := n4_
          have GW182 := n5_
          have GE182 := n6_
          have NB175_182 := n7_
          have NB182_175 := n8_
          have NB176_182 := n9_
          have NB182_176 := n10_
          clear n0_ n1_ n2_ n3_ n4_ n5_ n6_ n7_ n8_ n9_ n10_
          clear hb hbox hg
          refine hK.out _ _ ⟨(blk_cell BK176.out 0).trans rfl, (blk_cell BK176.out 1).trans rfl, (blk_cell BK176.out 2).trans rfl, (blk_cell BK176.out 3).trans rfl⟩ (fun hHeld => ?_)
          clear hK K
          refine norm_ (a' := ?_) ?_ ?_
          rotate_left
          · show Act.put _ (some 9) _ = _
            simp only [Act.put, List.setIfInBounds_toArray, List.set_cons_zero, List.set_cons_succ, i64_w, i32_w]
            rfl
          refine one_ (i := 4) (N := some 8) #[true, true, true, true, true, true, false, false] rfl rfl (one_of HT_.out (by kernel_rfl)) (by decide) (fun K hK => ?_)
          refine box_step ?hg (N := 8) ?hd (cs := #[.int .u64 0, .int .u32 0]) (t := 27) ?hr ?_; (case hd => rfl); (case hg => rfl); (case hr => first | (go_simp; done) | (go_simp; rfl))
          intro gb181 hg w20 hbox hb
          have n0_ := Aside0.mk (Kd.R_below (by (with_reducible repeat (first | apply Kd.R_alloc | apply Kd.R_drewN | apply Kd.R_drew)); exact HO180.out) hb)
          have n1_ := Aside0.mk (blk_below (g := gb175) (o := .cells #[.int .u64 a1_0, .int .u32 a1_1, .int .u32 a1_2, .int .u32 a1_3, .string a1_4, .bool a1_5] 31 (0, 0)) (by (with_reducible repeat (first | refine blk_drewN ?_ _ | refine blk_drew ?_ | refine blk_alloc ?_ _)); exact BK175.out) hb)
          have n2_ := Aside0.mk (blk_below (g := gb176) (o := .cells #[.int .u64 a2_0, .int .u32 a2_1, .int .u64 a2_2, .int .u32 a2_3] 35 (0, 0)) (by (with_reducible repeat (first | refine blk_drewN ?_ _ | refine blk_drew ?_ | refine blk_alloc ?_ _)); exact BK176.out) hb)
          have n3_ := Aside0.mk (blk_below (g := gb182) (o := .cells #[.int .u64 0, .int .u32 0] 27 (0, 0)) (by (with_reducible repeat (first | refine blk_drewN ?_ _ | refine blk_drew ?_ | refine blk_alloc ?_ _)); exact BK182.out) hb)
          have n4_ := Aside0.mk (below_step (by repeat (first | (with_reducible first | exact HB.out | apply below_alloc | apply pw_below_drewN | apply below_drew1 | refine below_set ?_ GE175.out | refine below_set ?_ GE176.out | refine below_set ?_ GE182.out) | exact HB.out)) hb)
          have n5_ := Aside0.mk (hbox)
          have n6_ := Aside0.mk ((by rw [hg]; exact (below_size (by repeat (first | (with_reducible first | exact HB.out | apply below_alloc | apply pw_below_drewN | apply below_drew1 | refine below_set ?_ GE175.out | refine below_set ?_ GE176.out | refine below_set ?_ GE182.out) | exact HB.out))) : w.heap.size ≤ gb181))
          have n7_ := Aside0.mk ((by rw [hg]; exact (below_size (by repeat (first | (with_reducible first | exact HB.out | apply below_alloc | apply pw_below_drewN | apply below_drew1 | refine below_set ?_ GE175.out | refine below_set ?_ GE176.out | refine below_set ?_ GE182.out) | exact HB.out))) : w.heap.size ≤ gb181))
          have n8_ := Aside0.mk ((by rw [hg]; exact Nat.ne_of_lt (blk_lt (g := gb175) (o := .cells #[.int .u64 a1_0, .int .u32 a1_1, .int .u32 a1_2, .int .u32 a1_3, .string a1_4, .bool a1_5] 31 (0, 0)) (by (with_reducible repeat (first | refine blk_drewN ?_ _ | refine blk_drew ?_ | refine blk_alloc ?_ _)); exact BK175.out)) : gb175 ≠ gb181))
          have n9_ := Aside0.mk ((by rw [hg]; exact Nat.ne_of_gt (blk_lt (g := gb175) (o := .cells #[.int .u64 a1_0, .int .u32 a1_1, .int .u32 a1_2, .int .u32 a1_3, .string a1_4, .bool a1_5] 31 (0, 0)) (by (with_reducible repeat (first | refine blk_drewN ?_ _ | refine blk_drew ?_ | refine blk_alloc ?_ _)); exact BK175.out)) : gb181 ≠ gb175))
          have n10_ := Aside0.mk ((by rw [hg]; exact Nat.ne_of_lt (blk_lt (g := gb176) (o := .cells #[.int .u64 a2_0, .int .u32 a2_1, .int .u64 a2_2, .int .u32 a2_3] 35 (0, 0)) (by (with_reducible repeat (first | refine blk_drewN ?_ _ | refine blk_drew ?_ | refine blk_alloc ?_ _)); exact BK176.out)) : gb176 ≠ gb181))
          have n11_ := Aside0.mk ((by rw [hg]; exact Nat.ne_of_gt (blk_lt (g := gb176) (o := .cells #[.int .u64 a2_0, .int .u32 a2_1, .int .u64 a2_2, .int .u32 a2_3] 35 (0, 0)) (by (with_reducible repeat (first | refine blk_drewN ?_ _ | refine blk_drew ?_ | refine blk_alloc ?_ _)); exact BK176.out)) : gb181 ≠ gb176))
          have n12_ := Aside0.mk ((by rw [hg]; exact Nat.ne_of_lt (blk_lt (g := gb182) (o := .cells #[.int .u64 0, .int .u32 0] 27 (0, 0)) (by (with_reducible repeat (first | refine blk_drewN ?_ _ | refine blk_drew ?_ | refine blk_alloc ?_ _)); exact BK182.out)) : gb182 ≠ gb181))
          have n13_ := Aside0.mk ((by rw [hg]; exact Nat.ne_of_gt (blk_lt (g := gb182) (o := .cells #[.int .u64 0, .int .u32 0] 27 (0, 0)) (by (with_reducible repeat (first | refine blk_drewN ?_ _ | refine blk_drew ?_ | refine blk_alloc ?_ _)); exact BK182.out)) : gb181 ≠ gb182))
          clear HO180
          clear BK175
          clear BK176
          clear BK182
          clear HB
          have HO180 := n0_
          have BK175 := n1_
          have BK176 := n2_
          have BK182 := n3_
          have HB := n4_
          have BK181 := n5_
          have GW181 := n6_
          have GE181 := n7_
          have NB175_181 := n8_
          have NB181_175 := n9_
          have NB176_181 := n10_
          have NB181_176 := n11_
          have NB182_181 := n12_
          have NB181_182 := n13_
          clear n0_ n1_ n2_ n3_ n4_ n5_ n6_ n7_ n8_ n9_ n10_ n11_ n12_ n13_
          clear hb hbox hg
          refine hK.out _ _ ⟨(blk_cell BK176.out 0).trans rfl, (blk_cell BK176.out 1).trans rfl, (blk_cell BK176.out 2).trans rfl, (blk_cell BK176.out 3).trans rfl⟩ (fun hHeld => ?_)
          clear hK K
          refine norm_ (a' := ?_) ?_ ?_
          rotate_left
          · show Act.put _ (some 8) _ = _
            simp only [Act.put, List.setIfInBounds_toArray, List.set_cons_zero, List.set_cons_succ, i64_w, i32_w]
            rfl
          exact norm_ (by simp only [putAll, Act.put, List.setIfInBounds_toArray, List.set_cons_zero, List.set_cons_succ]) (hCont (gb181, gb182) _ ⟨hHeld, (by (with_reducible repeat (first | apply Kd.R_alloc | apply Kd.R_drewN | apply Kd.R_drew)); exact Kd.R_mono HO180.out (fun _ hk => hk.2)), (by (with_reducible repeat (first | refine blk_drewN ?_ _ | refine blk_drew ?_ | refine blk_alloc ?_ _)); exact BK175.out), (by (with_reducible repeat (first | refine blk_drewN ?_ _ | refine blk_drew ?_ | refine blk_alloc ?_ _)); exact BK176.out), (by (with_reducible repeat (first | refine blk_drewN ?_ _ | refine blk_drew ?_ | refine blk_alloc ?_ _)); exact BK181.out), (by (with_reducible repeat (first | refine blk_drewN ?_ _ | refine blk_drew ?_ | refine blk_alloc ?_ _)); exact BK182.out), GW181.out, GE181.out, NB175_181.out, NB181_175.out, NB176_181.out, NB181_176.out, NB182_181.out, NB181_182.out, GW182.out, GE182.out, NB175_182.out, NB182_175.out, NB176_182.out, NB182_176.out, (by repeat (first | (with_reducible first | exact HB.out | apply below_alloc | apply pw_below_drewN | apply below_drew1 | refine below_set ?_ GE175.out | refine below_set ?_ GE176.out | refine below_set ?_ GE182.out | refine below_set ?_ GE181.out) | exact HB.out))⟩)
      rintro ⟨gb181, gb182⟩ w21 ⟨hS_, h0_, h1_, h2_, h3_, h4_, h5_, h6_, h7_, h8_, h9_, h10_, h11_, h12_, h13_, h14_, h15_, h16_, h17_, h18_, h19_⟩
      have n0_ : Aside0 (Kd.R k31 31 w21 w.heap.size (fun k_ => k_ ≠ gb175) v179 t178) := ⟨h0_⟩
      have n1_ : Aside0 (w21.heap[gb175]? = some (.cells #[.int .u64 a1_0, .int .u32 a1_1, .int .u32 a1_2, .int .u32 a1_3, .string a1_4, .bool a1_5] 31 (0, 0))) := ⟨h1_⟩
      have n2_ : Aside0 (w21.heap[gb176]? = some (.cells #[.int .u64 a2_0, .int .u32 a2_1, .int .u64 a2_2, .int .u32 a2_3] 35 (0, 0))) := ⟨h2_⟩
      have n3_ : Aside0 (w21.heap[gb181]? = some (.cells #[.int .u64 0, .int .u32 0] 27 (0, 0))) := ⟨h3_⟩
      have n4_ : Aside0 (w21.heap[gb182]? = some (.cells #[.int .u64 0, .int .u32 0] 27 (0, 0))) := ⟨h4_⟩
      have n5_ : Aside0 (w.heap.size ≤ gb181) := ⟨h5_⟩
      have n6_ : Aside0 (w.heap.size ≤ gb181) := ⟨h6_⟩
      have n7_ : Aside0 (gb175 ≠ gb181) := ⟨h7_⟩
      have n8_ : Aside0 (gb181 ≠ gb175) := ⟨h8_⟩
      have n9_ : Aside0 (gb176 ≠ gb181) := ⟨h9_⟩
      have n10_ : Aside0 (gb181 ≠ gb176) := ⟨h10_⟩
      have n11_ : Aside0 (gb182 ≠ gb181) := ⟨h11_⟩
      have n12_ : Aside0 (gb181 ≠ gb182) := ⟨h12_⟩
      have n13_ : Aside0 (w.heap.size ≤ gb182) := ⟨h13_⟩
      have n14_ : Aside0 (w.heap.size ≤ gb182) := ⟨h14_⟩
      have n15_ : Aside0 (gb175 ≠ gb182) := ⟨h15_⟩
      have n16_ : Aside0 (gb182 ≠ gb175) := ⟨h16_⟩
      have n17_ : Aside0 (gb176 ≠ gb182) := ⟨h17_⟩
      have n18_ : Aside0 (gb182 ≠ gb176) := ⟨h18_⟩
      have n19_ : Aside0 (Below w.heap.size w w21) := ⟨h19_⟩
      clear HO180
      clear BK175
      clear BK176
      clear HB
      clear h0_ h1_ h2_ h3_ h4_ h5_ h6_ h7_ h8_ h9_ h10_ h11_ h12_ h13_ h14_ h15_ h16_ h17_ h18_ h19_
      have HO180 := n0_
      have BK175 := n1_
      have BK176 := n2_
      have BK181 := n3_
      have BK182 := n4_
      have GW181 := n5_
      have GE181 := n6_
      have NB175_181 := n7_
      have NB181_175 := n8_
      have NB176_181 := n9_
      have NB181_176 := n10_
      have NB182_181 := n11_
      have NB181_182 := n12_
      have GW182 := n13_
      have GE182 := n14_
      have NB175_182 := n15_
      have NB182_175 := n16_
      have NB176_182 := n17_
      have NB182_176 := n18_
      have HB := n19_
      clear n0_ n1_ n2_ n3_ n4_ n5_ n6_ n7_ n8_ n9_ n10_ n11_ n12_ n13_ n14_ n15_ n16_ n17_ n18_ n19_
      have hHeld : w21.cell? ⟨gb176, 0, none⟩ = some (.int .u64 a2_0) ∧ w21.cell? ⟨gb176, 1, none⟩ = some (.int .u32 a2_1) ∧ w21.cell? ⟨gb176, 2, none⟩ = some (.int .u64 a2_2) ∧ w21.cell? ⟨gb176, 3, none⟩ = some (.int .u32 a2_3) := hS_
      refine norm_ (a' := ?_) ?_ ?_
      rotate_left
      · simp only [putAll, Act.put, List.setIfInBounds_toArray, List.set_cons_zero, List.set_cons_succ]
        rfl
      refine one_ (i := 6) (N := none) #[true, true, true, true, true, true, true, false] rfl rfl (one_of HT_.out (by kernel_rfl)) (by decide) (fun K hK => ?_)
      have hs22 : w21.cell? ⟨gb181, 0, none⟩ = some (.int .u64 0) := (blk_cell BK181.out 0).trans rfl
      have hfs22 := blk_frozen BK181.out 0
      have hns22_0 := NB175_181.out
      have hns22_1 := NB176_181.out
      have hns22_3 := NB182_181.out
      have hms22_0 := NB181_175.out
      have hms22_1 := NB181_176.out
      have hms22_3 := NB181_182.out
      have hs23 : w21.cell? ⟨gb181, 1, none⟩ = some (.int .u32 0) := (blk_cell BK181.out 1).trans rfl
      have hfs23 := blk_frozen BK181.out 1
      have hns23_0 := NB175_181.out
      have hns23_1 := NB176_181.out
      have hns23_3 := NB182_181.out
      have hms23_0 := NB181_175.out
      have hms23_1 := NB181_176.out
      have hms23_3 := NB181_182.out
      refine skip_ (w1 := ?_) (by rfl) rfl ?_ ?_
      rotate_left
      · go_simp
        rfl
      refine hK.out _ _ ⟨((cell_far (p := ⟨gb181, _, none⟩) NB176_181.out _).trans (((cell_far (p := ⟨gb181, _, none⟩) NB176_181.out _).trans (hHeld.1)))), ((cell_far (p := ⟨gb181, _, none⟩) NB176_181.out _).trans (((cell_far (p := ⟨gb181, _, none⟩) NB176_181.out _).trans (hHeld.2.1)))), ((cell_far (p := ⟨gb181, _, none⟩) NB176_181.out _).trans (((cell_far (p := ⟨gb181, _, none⟩) NB176_181.out _).trans (hHeld.2.2.1)))), ((cell_far (p := ⟨gb181, _, none⟩) NB176_181.out _).trans (((cell_far (p := ⟨gb181, _, none⟩) NB176_181.out _).trans (hHeld.2.2.2))))⟩ (fun hHeld => ?_)
      clear hK K
      refine one_ (i := 7) (N := none) #[true, true, true, true, true, true, true, true] rfl rfl (one_of HT_.out (by kernel_rfl)) (by decide) (fun K hK => ?_)
      have hs24 : w21.cell? ⟨gb182, 0, none⟩ = some (.int .u64 0) := (blk_cell BK182.out 0).trans rfl
      have hfs24 := blk_frozen BK182.out 0
      have hns24_0 := NB175_182.out
      have hns24_1 := NB176_182.out
      have hns24_2 := NB181_182.out
      have hms24_0 := NB182_175.out
      have hms24_1 := NB182_176.out
      have hms24_2 := NB182_181.out
      have hs25 : w21.cell? ⟨gb182, 1, none⟩ = some (.int .u32 0) := (blk_cell BK182.out 1).trans rfl
      have hfs25 := blk_frozen BK182.out 1
      have hns25_0 := NB175_182.out
      have hns25_1 := NB176_182.out
      have hns25_2 := NB181_182.out
      have hms25_0 := NB182_175.out
      have hms25_1 := NB182_176.out
      have hms25_2 := NB182_181.out
      refine skip_ (w1 := ?_) (by rfl) rfl ?_ ?_
      rotate_left
      · go_simp
        rfl
      refine hK.out _ _ ⟨((cell_far (p := ⟨gb182, _, none⟩) NB176_182.out _).trans (((cell_far (p := ⟨gb182, _, none⟩) NB176_182.out _).trans (hHeld.1)))), ((cell_far (p := ⟨gb182, _, none⟩) NB176_182.out _).trans (((cell_far (p := ⟨gb182, _, none⟩) NB176_182.out _).trans (hHeld.2.1)))), ((cell_far (p := ⟨gb182, _, none⟩) NB176_182.out _).trans (((cell_far (p := ⟨gb182, _, none⟩) NB176_182.out _).trans (hHeld.2.2.1)))), ((cell_far (p := ⟨gb182, _, none⟩) NB176_182.out _).trans (((cell_far (p := ⟨gb182, _, none⟩) NB176_182.out _).trans (hHeld.2.2.2))))⟩ (fun hHeld => ?_)
      clear hK K
      refine done_ (done_of HT_.out (by kernel_rfl)) ?_
      have hnb26 := NB181_175.out
      have hnc26 := NB175_181.out
      have hnb27 := NB181_176.out
      have hnc27 := NB176_181.out
      have hnb28 := NB181_182.out
      have hnc28 := NB182_181.out
      have hcz29_0 : w21.cell? ⟨gb181, 0, none⟩ = some (.int .u64 0) := (blk_cell BK181.out 0).trans rfl
      have hcz29_1 : w21.cell? ⟨gb181, 1, none⟩ = some (.int .u32 0) := (blk_cell BK181.out 1).trans rfl
      have hfz29_0 := blk_frozen BK181.out 0
      have hfz29_1 := blk_frozen BK181.out 1
      obtain ⟨Ao30, co30, eo30⟩ := Kd.R_slice HO180.out
      subst eo30
      go_upto_if 45 with (first | ((with_reducible refine gate_callee (f := 16) rfl ?_); refine goesL_ (some 35) rfl rfl Try.func16 (by kernel_rfl) rfl #[.slice Ao30 t178.length co30, .agg #[.int .u64 a2_0, .int .u32 a2_1]] rfl (by (try simp only [List.map_toArray, List.map_cons, List.map_nil]); first | done | rfl | (simp only [List.length_drop, List.length_take]; rfl)) ?_; (with_reducible refine (chain_At.calls k _ _ t178 a2_0 a2_1 t183 t184 t185 t186 t187 t188 t189 _ ?side1 ?side2 A11.out).mono ?_); (case side1 => refine (Kd.R_reads' (e := 31) (base := w.heap.size) (ok := fun k_ => k_ ≠ gb175) (n := t178.length) (c := co30) ?_).2.2; exact (by (with_reducible repeat (first | apply Kd.R_alloc | apply Kd.R_drewN | apply Kd.R_drew)); exact (Kd.R_mono (Kd.R_mono (Kd.R_far (p := ⟨gb182, 1, none⟩) (Kd.R_far (p := ⟨gb182, 0, none⟩) (Kd.R_far (p := ⟨gb181, 1, none⟩) (Kd.R_far (p := ⟨gb181, 0, none⟩) (Kd.R_types (Kd.R_types HO180.out BK181.out (by decide)) BK182.out (by decide)) (fun _ hk => hk.1.2) (.int .u64 a2_0)) (fun _ hk => hk.1.2) (.int .u32 a2_1)) (fun _ hk => hk.2) (.int .u64 a2_2)) (fun _ hk => hk.2) (.int .u32 a2_3)) (fun _ h_ => h_.1)) (fun _ h_ => h_.1)))); (case side2 => exact (Kd.R_reads' HO180.out).2.1); rintro e w31 ⟨rfl, hb⟩; refine ⟨_, rfl, ?_⟩; have n0_ := Aside0.mk (Kd.R_below (by (with_reducible repeat (first | apply Kd.R_alloc | apply Kd.R_drewN | apply Kd.R_drew)); exact (Kd.R_mono (Kd.R_mono (Kd.R_far (p := ⟨gb182, 1, none⟩) (Kd.R_far (p := ⟨gb182, 0, none⟩) (Kd.R_far (p := ⟨gb181, 1, none⟩) (Kd.R_far (p := ⟨gb181, 0, none⟩) (Kd.R_types (Kd.R_types HO180.out BK181.out (by decide)) BK182.out (by decide)) (fun _ hk => hk.1.2) (.int .u64 a2_0)) (fun _ hk => hk.1.2) (.int .u32 a2_1)) (fun _ hk => hk.2) (.int .u64 a2_2)) (fun _ hk => hk.2) (.int .u32 a2_3)) (fun _ h_ => h_.1)) (fun _ h_ => h_.1))) hb); have n1_ := Aside0.mk (blk_below (g := gb175) (o := .cells #[.int .u64 a1_0, .int .u32 a1_1, .int .u32 a1_2, .int .u32 a1_3, .string a1_4, .bool a1_5] 31 (0, 0)) (by (with_reducible repeat (first | refine blk_drewN ?_ _ | refine blk_drew ?_ | refine blk_alloc ?_ _)); refine blk_far ?_ NB175_182.out _; (with_reducible repeat (first | refine blk_drewN ?_ _ | refine blk_drew ?_ | refine blk_alloc ?_ _)); refine blk_far ?_ NB175_182.out _; (with_reducible repeat (first | refine blk_drewN ?_ _ | refine blk_drew ?_ | refine blk_alloc ?_ _)); refine blk_far ?_ NB175_181.out _; (with_reducible repeat (first | refine blk_drewN ?_ _ | refine blk_drew ?_ | refine blk_alloc ?_ _)); refine blk_far ?_ NB175_181.out _; (with_reducible repeat (first | refine blk_drewN ?_ _ | refine blk_drew ?_ | refine blk_alloc ?_ _)); exact BK175.out) hb); have n2_ := Aside0.mk (blk_below (g := gb176) (o := .cells #[.int .u64 a2_0, .int .u32 a2_1, .int .u64 a2_2, .int .u32 a2_3] 35 (0, 0)) (by (with_reducible repeat (first | refine blk_drewN ?_ _ | refine blk_drew ?_ | refine blk_alloc ?_ _)); refine blk_far ?_ NB176_182.out _; (with_reducible repeat (first | refine blk_drewN ?_ _ | refine blk_drew ?_ | refine blk_alloc ?_ _)); refine blk_far ?_ NB176_182.out _; (with_reducible repeat (first | refine blk_drewN ?_ _ | refine blk_drew ?_ | refine blk_alloc ?_ _)); refine blk_far ?_ NB176_181.out _; (with_reducible repeat (first | refine blk_drewN ?_ _ | refine blk_drew ?_ | refine blk_alloc ?_ _)); refine blk_far ?_ NB176_181.out _; (with_reducible repeat (first | refine blk_drewN ?_ _ | refine blk_drew ?_ | refine blk_alloc ?_ _)); exact BK176.out) hb); have n3_ := Aside0.mk (blk_below (g := gb181) (o := .cells #[.int .u64 a2_0, .int .u32 a2_1] 27 (0, 0)) (by (with_reducible repeat (first | refine blk_drewN ?_ _ | refine blk_drew ?_ | refine blk_alloc ?_ _)); refine blk_far ?_ NB181_182.out _; (with_reducible repeat (first | refine blk_drewN ?_ _ | refine blk_drew ?_ | refine blk_alloc ?_ _)); refine blk_far ?_ NB181_182.out _; (with_reducible repeat (first | refine blk_drewN ?_ _ | refine blk_drew ?_ | refine blk_alloc ?_ _)); refine blk_put (cs := #[.int .u64 a2_0, .int .u32 0]) ?_ 1 _ rfl; (with_reducible repeat (first | refine blk_drewN ?_ _ | refine blk_drew ?_ | refine blk_alloc ?_ _)); refine blk_put (cs := #[.int .u64 0, .int .u32 0]) ?_ 0 _ rfl; (with_reducible repeat (first | refine blk_drewN ?_ _ | refine blk_drew ?_ | refine blk_alloc ?_ _)); exact BK181.out) hb); have n4_ := Aside0.mk (blk_below (g := gb182) (o := .cells #[.int .u64 a2_2, .int .u32 a2_3] 27 (0, 0)) (by (with_reducible repeat (first | refine blk_drewN ?_ _ | refine blk_drew ?_ | refine blk_alloc ?_ _)); refine blk_put (cs := #[.int .u64 a2_2, .int .u32 0]) ?_ 1 _ rfl; (with_reducible repeat (first | refine blk_drewN ?_ _ | refine blk_drew ?_ | refine blk_alloc ?_ _)); refine blk_put (cs := #[.int .u64 0, .int .u32 0]) ?_ 0 _ rfl; (with_reducible repeat (first | refine blk_drewN ?_ _ | refine blk_drew ?_ | refine blk_alloc ?_ _)); refine blk_far ?_ NB182_181.out _; (with_reducible repeat (first | refine blk_drewN ?_ _ | refine blk_drew ?_ | refine blk_alloc ?_ _)); refine blk_far ?_ NB182_181.out _; (with_reducible repeat (first | refine blk_drewN ?_ _ | refine blk_drew ?_ | refine blk_alloc ?_ _)); exact BK182.out) hb); have n5_ := Aside0.mk (below_step (by repeat (first | (with_reducible first | exact HB.out | apply below_alloc | apply pw_below_drewN | apply below_drew1 | refine below_set ?_ GE175.out | refine below_set ?_ GE176.out | refine below_set ?_ GE181.out | refine below_set ?_ GE182.out) | exact HB.out)) hb); clear HO180; clear BK175; clear BK176; clear BK181; clear BK182; clear HB; have HO180 := n0_; have BK175 := n1_; have BK176 := n2_; have BK181 := n3_; have BK182 := n4_; have HB := n5_; clear n0_ n1_ n2_ n3_ n4_ n5_; (try clear hb); (try clear hb2); (try clear hk); (try clear hi)) | ((with_reducible refine gate_dst (N := 10) rfl ?_); (try (refine gate_guard (by rfl) ?_; dsimp only)); refine box_event ?hg (N := 10) ?hd (cs := #[.int .u64 0, .int .u32 0, .int .u32 0, .int .u32 0, .string (⟨#[]⟩ : ByteArray), .bool false]) (t := 31) ?hr ?_; (case hd => rfl); (case hg => rfl); (case hr => first | (go_simp; done) | (go_simp; rfl)); intro gb190 hg w32 hbox hb; have n0_ := Aside0.mk (Kd.R_below (Kd.R_elderB (by (with_reducible repeat (first | apply Kd.R_alloc | apply Kd.R_drewN | apply Kd.R_drew)); exact HO180.out) gb190 (Nat.le_of_eq hg.symm)) hb); have n1_ := Aside0.mk (blk_below (g := gb175) (o := .cells #[.int .u64 a1_0, .int .u32 a1_1, .int .u32 a1_2, .int .u32 a1_3, .string a1_4, .bool a1_5] 31 (0, 0)) (by (with_reducible repeat (first | refine blk_drewN ?_ _ | refine blk_drew ?_ | refine blk_alloc ?_ _)); exact BK175.out) hb); have n2_ := Aside0.mk (blk_below (g := gb176) (o := .cells #[.int .u64 a2_0, .int .u32 a2_1, .int .u64 a2_2, .int .u32 a2_3] 35 (0, 0)) (by (with_reducible repeat (first | refine blk_drewN ?_ _ | refine blk_drew ?_ | refine blk_alloc ?_ _)); exact BK176.out) hb); have n3_ := Aside0.mk (blk_below (g := gb181) (o := .cells #[.int .u64 a2_0, .int .u32 a2_1] 27 (0, 0)) (by (with_reducible repeat (first | refine blk_drewN ?_ _ | refine blk_drew ?_ | refine blk_alloc ?_ _)); exact BK181.out) hb); have n4_ := Aside0.mk (blk_below (g := gb182) (o := .cells #[.int .u64 a2_2, .int .u32 a2_3] 27 (0, 0)) (by (with_reducible repeat (first | refine blk_drewN ?_ _ | refine blk_drew ?_ | refine blk_alloc ?_ _)); exact BK182.out) hb); have n5_ := Aside0.mk (below_step (by repeat (first | (with_reducible first | exact HB.out | apply below_alloc | apply pw_below_drewN | apply below_drew1 | refine below_set ?_ GE175.out | refine below_set ?_ GE176.out | refine below_set ?_ GE181.out | refine below_set ?_ GE182.out) | exact HB.out)) hb); have n6_ := Aside0.mk (hbox); have n7_ := Aside0.mk ((by rw [hg]; exact (below_size (by repeat (first | (with_reducible first | exact HB.out | apply below_alloc | apply pw_below_drewN | apply below_drew1 | refine below_set ?_ GE175.out | refine below_set ?_ GE176.out | refine below_set ?_ GE181.out | refine below_set ?_ GE182.out) | exact HB.out))) : w.heap.size ≤ gb190)); have n8_ := Aside0.mk ((by rw [hg]; exact (below_size (by repeat (first | (with_reducible first | exact HB.out | apply below_alloc | apply pw_below_drewN | apply below_drew1 | refine below_set ?_ GE175.out | refine below_set ?_ GE176.out | refine below_set ?_ GE181.out | refine below_set ?_ GE182.out) | exact HB.out))) : w.heap.size ≤ gb190)); have n9_ := Aside0.mk ((by rw [hg]; exact Nat.ne_of_lt (blk_lt (g := gb175) (o := .cells #[.int .u64 a1_0, .int .u32 a1_1, .int .u32 a1_2, .int .u32 a1_3, .string a1_4, .bool a1_5] 31 (0, 0)) (by (with_reducible repeat (first | refine blk_drewN ?_ _ | refine blk_drew ?_ | refine blk_alloc ?_ _)); exact BK175.out)) : gb175 ≠ gb190)); have n10_ := Aside0.mk ((by rw [hg]; exact Nat.ne_of_gt (blk_lt (g := gb175) (o := .cells #[.int .u64 a1_0, .int .u32 a1_1, .int .u32 a1_2, .int .u32 a1_3, .string a1_4, .bool a1_5] 31 (0, 0)) (by (with_reducible repeat (first | refine blk_drewN ?_ _ | refine blk_drew ?_ | refine blk_alloc ?_ _)); exact BK175.out)) : gb190 ≠ gb175)); have n11_ := Aside0.mk ((by rw [hg]; exact Nat.ne_of_lt (blk_lt (g := gb176) (o := .cells #[.int .u64 a2_0, .int .u32 a2_1, .int .u64 a2_2, .int .u32 a2_3] 35 (0, 0)) (by (with_reducible repeat (first | refine blk_drewN ?_ _ | refine blk_drew ?_ | refine blk_alloc ?_ _)); exact BK176.out)) : gb176 ≠ gb190)); have n12_ := Aside0.mk ((by rw [hg]; exact Nat.ne_of_gt (blk_lt (g := gb176) (o := .cells #[.int .u64 a2_0, .int .u32 a2_1, .int .u64 a2_2, .int .u32 a2_3] 35 (0, 0)) (by (with_reducible repeat (first | refine blk_drewN ?_ _ | refine blk_drew ?_ | refine blk_alloc ?_ _)); exact BK176.out)) : gb190 ≠ gb176)); have n13_ := Aside0.mk ((by rw [hg]; exact Nat.ne_of_lt (blk_lt (g := gb181) (o := .cells #[.int .u64 a2_0, .int .u32 a2_1] 27 (0, 0)) (by (with_reducible repeat (first | refine blk_drewN ?_ _ | refine blk_drew ?_ | refine blk_alloc ?_ _)); exact BK181.out)) : gb181 ≠ gb190)); have n14_ := Aside0.mk ((by rw [hg]; exact Nat.ne_of_gt (blk_lt (g := gb181) (o := .cells #[.int .u64 a2_0, .int .u32 a2_1] 27 (0, 0)) (by (with_reducible repeat (first | refine blk_drewN ?_ _ | refine blk_drew ?_ | refine blk_alloc ?_ _)); exact BK181.out)) : gb190 ≠ gb181)); have n15_ := Aside0.mk ((by rw [hg]; exact Nat.ne_of_lt (blk_lt (g := gb182) (o := .cells #[.int .u64 a2_2, .int .u32 a2_3] 27 (0, 0)) (by (with_reducible repeat (first | refine blk_drewN ?_ _ | refine blk_drew ?_ | refine blk_alloc ?_ _)); exact BK182.out)) : gb182 ≠ gb190)); have n16_ := Aside0.mk ((by rw [hg]; exact Nat.ne_of_gt (blk_lt (g := gb182) (o := .cells #[.int .u64 a2_2, .int .u32 a2_3] 27 (0, 0)) (by (with_reducible repeat (first | refine blk_drewN ?_ _ | refine blk_drew ?_ | refine blk_alloc ?_ _)); exact BK182.out)) : gb190 ≠ gb182)); clear HO180; clear BK175; clear BK176; clear BK181; clear BK182; clear HB; have HO180 := n0_; have BK175 := n1_; have BK176 := n2_; have BK181 := n3_; have BK182 := n4_; have HB := n5_; have BK190 := n6_; have GW190 := n7_; have GE190 := n8_; have NB175_190 := n9_; have NB190_175 := n10_; have NB176_190 := n11_; have NB190_176 := n12_; have NB181_190 := n13_; have NB190_181 := n14_; have NB182_190 := n15_; have NB190_182 := n16_; clear n0_ n1_ n2_ n3_ n4_ n5_ n6_ n7_ n8_ n9_ n10_ n11_ n12_ n13_ n14_ n15_ n16_; clear hb hbox hg; have hnb33 := NB190_175.out; have hnc33 := NB175_190.out; have hnb34 := NB190_176.out; have hnc34 := NB176_190.out; have hnb35 := NB190_181.out; have hnc35 := NB181_190.out; have hnb36 := NB190_182.out; have hnc36 := NB182_190.out; have hcz37_0 : w32.cell? ⟨gb190, 0, none⟩ = some (.int .u64 0) := (blk_cell BK190.out 0).trans rfl; have hcz37_1 : w32.cell? ⟨gb190, 1, none⟩ = some (.int .u32 0) := (blk_cell BK190.out 1).trans rfl; have hcz37_2 : w32.cell? ⟨gb190, 2, none⟩ = some (.int .u32 0) := (blk_cell BK190.out 2).trans rfl; have hcz37_3 : w32.cell? ⟨gb190, 3, none⟩ = some (.int .u32 0) := (blk_cell BK190.out 3).trans rfl; have hcz37_4 : w32.cell? ⟨gb190, 4, none⟩ = some (.string (⟨#[]⟩ : ByteArray)) := (blk_cell BK190.out 4).trans rfl; have hcz37_5 : w32.cell? ⟨gb190, 5, none⟩ = some (.bool false) := (blk_cell BK190.out 5).trans rfl; have hfz37_0 := blk_frozen BK190.out 0; have hfz37_1 := blk_frozen BK190.out 1; have hfz37_2 := blk_frozen BK190.out 2; have hfz37_3 := blk_frozen BK190.out 3; have hfz37_4 := blk_frozen BK190.out 4; have hfz37_5 := blk_frozen BK190.out 5; have hnb38 := NB175_176.out; have hnc38 := NB176_175.out; have hnb39 := NB175_182.out; have hnc39 := NB182_175.out; have hcz40_0 : w32.cell? ⟨gb175, 0, none⟩ = some (.int .u64 a1_0) := (blk_cell BK175.out 0).trans rfl; have hcz40_1 : w32.cell? ⟨gb175, 1, none⟩ = some (.int .u32 a1_1) := (blk_cell BK175.out 1).trans rfl; have hcz40_2 : w32.cell? ⟨gb175, 2, none⟩ = some (.int .u32 a1_2) := (blk_cell BK175.out 2).trans rfl; have hcz40_3 : w32.cell? ⟨gb175, 3, none⟩ = some (.int .u32 a1_3) := (blk_cell BK175.out 3).trans rfl; have hcz40_4 : w32.cell? ⟨gb175, 4, none⟩ = some (.string a1_4) := (blk_cell BK175.out 4).trans rfl; have hcz40_5 : w32.cell? ⟨gb175, 5, none⟩ = some (.bool a1_5) := (blk_cell BK175.out 5).trans rfl; have hfz40_0 := blk_frozen BK175.out 0; have hfz40_1 := blk_frozen BK175.out 1; have hfz40_2 := blk_frozen BK175.out 2; have hfz40_3 := blk_frozen BK175.out 3; have hfz40_4 := blk_frozen BK175.out 4; have hfz40_5 := blk_frozen BK175.out 5) | ((with_reducible refine gate_callee (f := 17) rfl ?_); refine goesL_ (some 41) rfl rfl Try.func17 (by kernel_rfl) rfl #[.slice Ao30 t178.length co30, .agg #[.int .u64 a1_0, .int .u32 a1_1, .int .u32 a1_2, .int .u32 a1_3, .string a1_4, .bool a1_5]] rfl (by (try simp only [List.map_toArray, List.map_cons, List.map_nil]); first | done | rfl | (simp only [List.length_drop, List.length_take]; rfl)) ?_; (with_reducible refine (chain_Put.calls k _ _ t178 a1_0 a1_1 a1_2 a1_3 a1_4 a1_5 t191 t194 _ ?side1 ?side2 A12.out).mono ?_); (case side1 => refine (Kd.R_reads' (e := 31) (base := w.heap.size) (ok := fun k_ => (k_ ≠ gb175 ∧ k_ ≠ gb190)) (n := t178.length) (c := co30) ?_).2.2; exact (by (with_reducible repeat (first | apply Kd.R_alloc | apply Kd.R_drewN | apply Kd.R_drew)); exact (Kd.R_mono (Kd.R_far (p := ⟨gb190, 5, none⟩) (Kd.R_far (p := ⟨gb190, 4, none⟩) (Kd.R_far (p := ⟨gb190, 3, none⟩) (Kd.R_far (p := ⟨gb190, 2, none⟩) (Kd.R_far (p := ⟨gb190, 1, none⟩) (Kd.R_far (p := ⟨gb190, 0, none⟩) (Kd.R_mono HO180.out (fun k_ hk => (⟨hk, hk.2⟩ : _ ∧ k_ ≠ gb190))) (fun _ hk => hk.2) (.int .u64 t183)) (fun _ hk => hk.2) (.int .u32 t184)) (fun _ hk => hk.2) (.int .u32 t185)) (fun _ hk => hk.2) (.int .u32 t186)) (fun _ hk => hk.2) (.string t187)) (fun _ hk => hk.2) (.bool t188)) (fun _ h_ => h_.1)))); (case side2 => exact (Kd.R_reads' HO180.out).2.1); rintro e w41 ⟨v192, rfl, ho0, hb⟩; refine ⟨_, rfl, ?_⟩; have n0_ := Aside0.mk (Kd.R_elder' (by (with_reducible repeat (first | apply Kd.R_alloc | apply Kd.R_drewN | apply Kd.R_drew)); exact (Kd.R_mono (Kd.R_far (p := ⟨gb190, 5, none⟩) (Kd.R_far (p := ⟨gb190, 4, none⟩) (Kd.R_far (p := ⟨gb190, 3, none⟩) (Kd.R_far (p := ⟨gb190, 2, none⟩) (Kd.R_far (p := ⟨gb190, 1, none⟩) (Kd.R_far (p := ⟨gb190, 0, none⟩) (Kd.R_mono HO180.out (fun k_ hk => (⟨hk, hk.2⟩ : _ ∧ k_ ≠ gb190))) (fun _ hk => hk.2) (.int .u64 t183)) (fun _ hk => hk.2) (.int .u32 t184)) (fun _ hk => hk.2) (.int .u32 t185)) (fun _ hk => hk.2) (.int .u32 t186)) (fun _ hk => hk.2) (.string t187)) (fun _ hk => hk.2) (.bool t188)) (fun _ h_ => h_.1))) (Kd.R_base ho0) hb); have n1_ := Aside0.mk (Kd.R_lower (Kd.R_newB (Kd.R_newB (Kd.R_new' ho0 (Kd.R_lt (by (with_reducible repeat (first | apply Kd.R_alloc | apply Kd.R_drewN | apply Kd.R_drew)); exact (Kd.R_mono (Kd.R_far (p := ⟨gb190, 5, none⟩) (Kd.R_far (p := ⟨gb190, 4, none⟩) (Kd.R_far (p := ⟨gb190, 3, none⟩) (Kd.R_far (p := ⟨gb190, 2, none⟩) (Kd.R_far (p := ⟨gb190, 1, none⟩) (Kd.R_far (p := ⟨gb190, 0, none⟩) (Kd.R_mono HO180.out (fun k_ hk => (⟨hk, hk.2⟩ : _ ∧ k_ ≠ gb190))) (fun _ hk => hk.2) (.int .u64 t183)) (fun _ hk => hk.2) (.int .u32 t184)) (fun _ hk => hk.2) (.int .u32 t185)) (fun _ hk => hk.2) (.int .u32 t186)) (fun _ hk => hk.2) (.string t187)) (fun _ hk => hk.2) (.bool t188)) (fun _ h_ => h_.1))))) (g := gb175) (o := .cells #[.int .u64 a1_0, .int .u32 a1_1, .int .u32 a1_2, .int .u32 a1_3, .string a1_4, .bool a1_5] 31 (0, 0)) (by (with_reducible repeat (first | refine blk_drewN ?_ _ | refine blk_drew ?_ | refine blk_alloc ?_ _)); refine blk_far ?_ NB175_190.out _; (with_reducible repeat (first | refine blk_drewN ?_ _ | refine blk_drew ?_ | refine blk_alloc ?_ _)); refine blk_far ?_ NB175_190.out _; (with_reducible repeat (first | refine blk_drewN ?_ _ | refine blk_drew ?_ | refine blk_alloc ?_ _)); refine blk_far ?_ NB175_190.out _; (with_reducible repeat (first | refine blk_drewN ?_ _ | refine blk_drew ?_ | refine blk_alloc ?_ _)); refine blk_far ?_ NB175_190.out _; (with_reducible repeat (first | refine blk_drewN ?_ _ | refine blk_drew ?_ | refine blk_alloc ?_ _)); refine blk_far ?_ NB175_190.out _; (with_reducible repeat (first | refine blk_drewN ?_ _ | refine blk_drew ?_ | refine blk_alloc ?_ _)); refine blk_far ?_ NB175_190.out _; (with_reducible repeat (first | refine blk_drewN ?_ _ | refine blk_drew ?_ | refine blk_alloc ?_ _)); exact BK175.out)) (g := gb190) (o := .cells #[.int .u64 t183, .int .u32 t184, .int .u32 t185, .int .u32 t186, .string t187, .bool t188] 31 (0, 0)) (by (with_reducible repeat (first | refine blk_drewN ?_ _ | refine blk_drew ?_ | refine blk_alloc ?_ _)); refine blk_put (cs := #[.int .u64 t183, .int .u32 t184, .int .u32 t185, .int .u32 t186, .string t187, .bool false]) ?_ 5 _ rfl; (with_reducible repeat (first | refine blk_drewN ?_ _ | refine blk_drew ?_ | refine blk_alloc ?_ _)); refine blk_put (cs := #[.int .u64 t183, .int .u32 t184, .int .u32 t185, .int .u32 t186, .string (⟨#[]⟩ : ByteArray), .bool false]) ?_ 4 _ rfl; (with_reducible repeat (first | refine blk_drewN ?_ _ | refine blk_drew ?_ | refine blk_alloc ?_ _)); refine blk_put (cs := #[.int .u64 t183, .int .u32 t184, .int .u32 t185, .int .u32 0, .string (⟨#[]⟩ : ByteArray), .bool false]) ?_ 3 _ rfl; (with_reducible repeat (first | refine blk_drewN ?_ _ | refine blk_drew ?_ | refine blk_alloc ?_ _)); refine blk_put (cs := #[.int .u64 t183, .int .u32 t184, .int .u32 0, .int .u32 0, .string (⟨#[]⟩ : ByteArray), .bool false]) ?_ 2 _ rfl; (with_reducible repeat (first | refine blk_drewN ?_ _ | refine blk_drew ?_ | refine blk_alloc ?_ _)); refine blk_put (cs := #[.int .u64 t183, .int .u32 0, .int .u32 0, .int .u32 0, .string (⟨#[]⟩ : ByteArray), .bool false]) ?_ 1 _ rfl; (with_reducible repeat (first | refine blk_drewN ?_ _ | refine blk_drew ?_ | refine blk_alloc ?_ _)); refine blk_put (cs := #[.int .u64 0, .int .u32 0, .int .u32 0, .int .u32 0, .string (⟨#[]⟩ : ByteArray), .bool false]) ?_ 0 _ rfl; (with_reducible repeat (first | refine blk_drewN ?_ _ | refine blk_drew ?_ | refine blk_alloc ?_ _)); exact BK190.out)) (below_size (by repeat (first | (with_reducible first | exact HB.out | apply below_alloc | apply pw_below_drewN | apply below_drew1 | refine below_set ?_ GE175.out | refine below_set ?_ GE176.out | refine below_set ?_ GE181.out | refine below_set ?_ GE182.out | refine below_set ?_ GE190.out) | exact HB.out)))); have n2_ := Aside0.mk (blk_below (g := gb175) (o := .cells #[.int .u64 a1_0, .int .u32 a1_1, .int .u32 a1_2, .int .u32 a1_3, .string a1_4, .bool a1_5] 31 (0, 0)) (by (with_reducible repeat (first | refine blk_drewN ?_ _ | refine blk_drew ?_ | refine blk_alloc ?_ _)); refine blk_far ?_ NB175_190.out _; (with_reducible repeat (first | refine blk_drewN ?_ _ | refine blk_drew ?_ | refine blk_alloc ?_ _)); refine blk_far ?_ NB175_190.out _; (with_reducible repeat (first | refine blk_drewN ?_ _ | refine blk_drew ?_ | refine blk_alloc ?_ _)); refine blk_far ?_ NB175_190.out _; (with_reducible repeat (first | refine blk_drewN ?_ _ | refine blk_drew ?_ | refine blk_alloc ?_ _)); refine blk_far ?_ NB175_190.out _; (with_reducible repeat (first | refine blk_drewN ?_ _ | refine blk_drew ?_ | refine blk_alloc ?_ _)); refine blk_far ?_ NB175_190.out _; (with_reducible repeat (first | refine blk_drewN ?_ _ | refine blk_drew ?_ | refine blk_alloc ?_ _)); refine blk_far ?_ NB175_190.out _; (with_reducible repeat (first | refine blk_drewN ?_ _ | refine blk_drew ?_ | refine blk_alloc ?_ _)); exact BK175.out) hb); have n3_ := Aside0.mk (blk_below (g := gb176) (o := .cells #[.int .u64 a2_0, .int .u32 a2_1, .int .u64 a2_2, .int .u32 a2_3] 35 (0, 0)) (by (with_reducible repeat (first | refine blk_drewN ?_ _ | refine blk_drew ?_ | refine blk_alloc ?_ _)); refine blk_far ?_ NB176_190.out _; (with_reducible repeat (first | refine blk_drewN ?_ _ | refine blk_drew ?_ | refine blk_alloc ?_ _)); refine blk_far ?_ NB176_190.out _; (with_reducible repeat (first | refine blk_drewN ?_ _ | refine blk_drew ?_ | refine blk_alloc ?_ _)); refine blk_far ?_ NB176_190.out _; (with_reducible repeat (first | refine blk_drewN ?_ _ | refine blk_drew ?_ | refine blk_alloc ?_ _)); refine blk_far ?_ NB176_190.out _; (with_reducible repeat (first | refine blk_drewN ?_ _ | refine blk_drew ?_ | refine blk_alloc ?_ _)); refine blk_far ?_ NB176_190.out _; (with_reducible repeat (first | refine blk_drewN ?_ _ | refine blk_drew ?_ | refine blk_alloc ?_ _)); refine blk_far ?_ NB176_190.out _; (with_reducible repeat (first | refine blk_drewN ?_ _ | refine blk_drew ?_ | refine blk_alloc ?_ _)); exact BK176.out) hb); have n4_ := Aside0.mk (blk_below (g := gb181) (o := .cells #[.int .u64 a2_0, .int .u32 a2_1] 27 (0, 0)) (by (with_reducible repeat (first | refine blk_drewN ?_ _ | refine blk_drew ?_ | refine blk_alloc ?_ _)); refine blk_far ?_ NB181_190.out _; (with_reducible repeat (first | refine blk_drewN ?_ _ | refine blk_drew ?_ | refine blk_alloc ?_ _)); refine blk_far ?_ NB181_190.out _; (with_reducible repeat (first | refine blk_drewN ?_ _ | refine blk_drew ?_ | refine blk_alloc ?_ _)); refine blk_far ?_ NB181_190.out _; (with_reducible repeat (first | refine blk_drewN ?_ _ | refine blk_drew ?_ | refine blk_alloc ?_ _)); refine blk_far ?_ NB181_190.out _; (with_reducible repeat (first | refine blk_drewN ?_ _ | refine blk_drew ?_ | refine blk_alloc ?_ _)); refine blk_far ?_ NB181_190.out _; (with_reducible repeat (first | refine blk_drewN ?_ _ | refine blk_drew ?_ | refine blk_alloc ?_ _)); refine blk_far ?_ NB181_190.out _; (with_reducible repeat (first | refine blk_drewN ?_ _ | refine blk_drew ?_ | refine blk_alloc ?_ _)); exact BK181.out) hb); have n5_ := Aside0.mk (blk_below (g := gb182) (o := .cells #[.int .u64 a2_2, .int .u32 a2_3] 27 (0, 0)) (by (with_reducible repeat (first | refine blk_drewN ?_ _ | refine blk_drew ?_ | refine blk_alloc ?_ _)); refine blk_far ?_ NB182_190.out _; (with_reducible repeat (first | refine blk_drewN ?_ _ | refine blk_drew ?_ | refine blk_alloc ?_ _)); refine blk_far ?_ NB182_190.out _; (with_reducible repeat (first | refine blk_drewN ?_ _ | refine blk_drew ?_ | refine blk_alloc ?_ _)); refine blk_far ?_ NB182_190.out _; (with_reducible repeat (first | refine blk_drewN ?_ _ | refine blk_drew ?_ | refine blk_alloc ?_ _)); refine blk_far ?_ NB182_190.out _; (with_reducible repeat (first | refine blk_drewN ?_ _ | refine blk_drew ?_ | refine blk_alloc ?_ _)); refine blk_far ?_ NB182_190.out _; (with_reducible repeat (first | refine blk_drewN ?_ _ | refine blk_drew ?_ | refine blk_alloc ?_ _)); refine blk_far ?_ NB182_190.out _; (with_reducible repeat (first | refine blk_drewN ?_ _ | refine blk_drew ?_ | refine blk_alloc ?_ _)); exact BK182.out) hb); have n6_ := Aside0.mk (blk_below (g := gb190) (o := .cells #[.int .u64 t183, .int .u32 t184, .int .u32 t185, .int .u32 t186, .string t187, .bool t188] 31 (0, 0)) (by (with_reducible repeat (first | refine blk_drewN ?_ _ | refine blk_drew ?_ | refine blk_alloc ?_ _)); refine blk_put (cs := #[.int .u64 t183, .int .u32 t184, .int .u32 t185, .int .u32 t186, .string t187, .bool false]) ?_ 5 _ rfl; (with_reducible repeat (first | refine blk_drewN ?_ _ | refine blk_drew ?_ | refine blk_alloc ?_ _)); refine blk_put (cs := #[.int .u64 t183, .int .u32 t184, .int .u32 t185, .int .u32 t186, .string (⟨#[]⟩ : ByteArray), .bool false]) ?_ 4 _ rfl; (with_reducible repeat (first | refine blk_drewN ?_ _ | refine blk_drew ?_ | refine blk_alloc ?_ _)); refine blk_put (cs := #[.int .u64 t183, .int .u32 t184, .int .u32 t185, .int .u32 0, .string (⟨#[]⟩ : ByteArray), .bool false]) ?_ 3 _ rfl; (with_reducible repeat (first | refine blk_drewN ?_ _ | refine blk_drew ?_ | refine blk_alloc ?_ _)); refine blk_put (cs := #[.int .u64 t183, .int .u32 t184, .int .u32 0, .int .u32 0, .string (⟨#[]⟩ : ByteArray), .bool false]) ?_ 2 _ rfl; (with_reducible repeat (first | refine blk_drewN ?_ _ | refine blk_drew ?_ | refine blk_alloc ?_ _)); refine blk_put (cs := #[.int .u64 t183, .int .u32 0, .int .u32 0, .int .u32 0, .string (⟨#[]⟩ : ByteArray), .bool false]) ?_ 1 _ rfl; (with_reducible repeat (first | refine blk_drewN ?_ _ | refine blk_drew ?_ | refine blk_alloc ?_ _)); refine blk_put (cs := #[.int .u64 0, .int .u32 0, .int .u32 0, .int .u32 0, .string (⟨#[]⟩ : ByteArray), .bool false]) ?_ 0 _ rfl; (with_reducible repeat (first | refine blk_drewN ?_ _ | refine blk_drew ?_ | refine blk_alloc ?_ _)); exact BK190.out) hb); have n7_ := Aside0.mk (below_step (by repeat (first | (with_reducible first | exact HB.out | apply below_alloc | apply pw_below_drewN | apply below_drew1 | refine below_set ?_ GE175.out | refine below_set ?_ GE176.out | refine below_set ?_ GE181.out | refine below_set ?_ GE182.out | refine below_set ?_ GE190.out) | exact HB.out)) hb); clear HO180; clear BK175; clear BK176; clear BK181; clear BK182; clear BK190; clear HB; have HO180 := n0_; have HO193 := n1_; have BK175 := n2_; have BK176 := n3_; have BK181 := n4_; have BK182 := n5_; have BK190 := n6_; have HB := n7_; clear n0_ n1_ n2_ n3_ n4_ n5_ n6_ n7_; (try clear hb); (try clear hb2); (try clear hk); (try clear hi); (try clear ho0)))
      (try simp only [Act.put, List.setIfInBounds_toArray, List.set_cons_zero, List.set_cons_succ])
      go_cut [] (fun wc => ∃ (kq : Nat), Aside0 (dovecotelaw07_ChainSees.j0 kq t178 t189 a2_0 a2_1 a2_2 a2_3 t183 t184 t185 t186 t187 t188 = some r) ∧ Aside0 (kq ≤ k) ∧ Aside0 (Kd.R k31 31 wc w.heap.size (fun k_ => k_ ≠ gb175 ∧ k_ ≠ gb190) (.slice Ao30 t178.length co30) t178) ∧ Aside0 (wc.heap[gb175]? = some (.cells #[.int .u64 a1_0, .int .u32 a1_1, .int .u32 a1_2, .int .u32 a1_3, .string a1_4, .bool a1_5] 31 (0, 0))) ∧ Aside0 (wc.heap[gb176]? = some (.cells #[.int .u64 a2_0, .int .u32 a2_1, .int .u64 a2_2, .int .u32 a2_3] 35 (0, 0))) ∧ Aside0 (wc.heap[gb181]? = some (.cells #[.int .u64 a2_0, .int .u32 a2_1] 27 (0, 0))) ∧ Aside0 (wc.heap[gb182]? = some (.cells #[.int .u64 a2_2, .int .u32 a2_3] 27 (0, 0))) ∧ Aside0 (wc.heap[gb190]? = some (.cells #[.int .u64 t183, .int .u32 t184, .int .u32 t185, .int .u32 t186, .string t187, .bool t188] 31 (0, 0))) ∧ Aside0 (Below w.heap.size w wc))
      case first =>
        have H := HC13.out
        clear HC13
        by_cases c42 : t194 = 0
        · rw [if_pos c42] at H
          have c42b0 : (t194 == 0) = true := beq_iff_eq.mpr c42
          have c42b1 : (t194 != 0) = false := bne_eq_false_iff_eq.mpr c42
          clear c42
          (first | rw [c42b0] | (simp only [i64_w, i32_w]; rw [c42b0]) | skip)
          replace H := Option.bind_eq_some_iff.mp H
          obtain ⟨⟨t195, t196, t197, t198, t199, t200, t201⟩, A430, H⟩ := H
          replace H : (if (t201 == t189) = true then (if (((t195 == t183 && (t196 == t184)) && ((t197 == t185 && (t198 == t186)) && (t199.toList == t187.toList && (t200 == t188)))) = true) then (dovecotelaw07_ChainSees.j0 k t178 t189 a2_0 a2_1 a2_2 a2_3 t183 t184 t185 t186 t187 t188) else (if t201 = true then (if (((t195 == a1_0 && (t196 == a1_1)) && ((t197 == a1_2 && (t198 == a1_3)) && (t199.toList == a1_4.toList && (t200 == a1_5)))) = true) then (dovecotelaw07_ChainSees.j0 k t178 t189 a2_0 a2_1 a2_2 a2_3 t183 t184 t185 t186 t187 t188) else (some false)) else (some false))) else (if t201 = true then (if (((t195 == a1_0 && (t196 == a1_1)) && ((t197 == a1_2 && (t198 == a1_3)) && (t199.toList == a1_4.toList && (t200 == a1_5)))) = true) then (dovecotelaw07_ChainSees.j0 k t178 t189 a2_0 a2_1 a2_2 a2_3 t183 t184 t185 t186 t187 t188) else (some false)) else (some false))) = some r := H
          have A43 := Aside0.mk A430
          clear A430
          by_cases c44 : (t201 == t189) = true
          · rw [if_pos c44] at H
            have c44b0 : (t201 == t189) = true := c44
            (try (have c44b1 : decide (t201 = t189) = true := by simpa using c44))
            (try (have c44b2 : (t201 == t189) = true := by simpa using c44))
            clear c44
            by_cases c45 : (((t195 == t183 && (t196 == t184)) && ((t197 == t185 && (t198 == t186)) && (t199.toList == t187.toList && (t200 == t188)))) = true)
            · rw [if_pos c45] at H
              have c45b0 : ((t195 == t183 && (t196 == t184)) && ((t197 == t185 && (t198 == t186)) && (t199.toList == t187.toList && (t200 == t188)))) = true := c45
              clear c45
              have H' := Aside0.mk H
              clear H
              have hnb46 := NB181_175.out
              have hnc46 := NB175_181.out
              have hnb47 := NB181_176.out
              have hnc47 := NB176_181.out
              have hnb48 := NB181_182.out
              have hnc48 := NB182_181.out
              have hnb49 := NB181_190.out
              have hnc49 := NB190_181.out
              have hcz50_0 : w41.cell? ⟨gb181, 0, none⟩ = some (.int .u64 a2_0) := (blk_cell BK181.out 0).trans rfl
              have hcz50_1 : w41.cell? ⟨gb181, 1, none⟩ = some (.int .u32 a2_1) := (blk_cell BK181.out 1).trans rfl
              have hfz50_0 := blk_frozen BK181.out 0
              have hfz50_1 := blk_frozen BK181.out 1
              obtain ⟨Ao51, co51, eo51⟩ := Kd.R_slice HO193.out
              subst eo51
              go_wp2_with (first | ((with_reducible refine gate_callee (f := 16) rfl ?_); refine goesL_ (some 49) rfl rfl Try.func16 (by kernel_rfl) rfl #[.slice Ao51 t191.length co51, .agg #[.int .u64 a2_0, .int .u32 a2_1]] rfl (by (try simp only [List.map_toArray, List.map_cons, List.map_nil]); first | done | rfl | (simp only [List.length_drop, List.length_take]; rfl)) ?_; (with_reducible refine (chain_At.calls k _ _ t191 a2_0 a2_1 t195 t196 t197 t198 t199 t200 t201 _ ?side1 ?side2 A43.out).mono ?_); (case side1 => repeat (first | exact (Kd.R_reads' HO193.out).2.2 | (with_reducible refine Kd.C_alloc ?_ _) | (with_reducible refine Kd.C_drewN ?_ _) | (with_reducible refine Kd.C_drew ?_))); (case side2 => exact (Kd.R_reads' HO193.out).2.1); rintro e w52 ⟨rfl, hb⟩; refine ⟨_, rfl, ?_⟩; have n0_ := Aside0.mk (Kd.R_below (by (with_reducible repeat (first | apply Kd.R_alloc | apply Kd.R_drewN | apply Kd.R_drew)); exact HO180.out) hb); have n1_ := Aside0.mk (Kd.R_below (by (with_reducible repeat (first | apply Kd.R_alloc | apply Kd.R_drewN | apply Kd.R_drew)); exact HO193.out) hb); have n2_ := Aside0.mk (blk_below (g := gb175) (o := .cells #[.int .u64 a1_0, .int .u32 a1_1, .int .u32 a1_2, .int .u32 a1_3, .string a1_4, .bool a1_5] 31 (0, 0)) (by (with_reducible repeat (first | refine blk_drewN ?_ _ | refine blk_drew ?_ | refine blk_alloc ?_ _)); exact BK175.out) hb); have n3_ := Aside0.mk (blk_below (g := gb176) (o := .cells #[.int .u64 a2_0, .int .u32 a2_1, .int .u64 a2_2, .int .u32 a2_3] 35 (0, 0)) (by (with_reducible repeat (first | refine blk_drewN ?_ _ | refine blk_drew ?_ | refine blk_alloc ?_ _)); exact BK176.out) hb); have n4_ := Aside0.mk (blk_below (g := gb181) (o := .cells #[.int .u64 a2_0, .int .u32 a2_1] 27 (0, 0)) (by (with_reducible repeat (first | refine blk_drewN ?_ _ | refine blk_drew ?_ | refine blk_alloc ?_ _)); exact BK181.out) hb); have n5_ := Aside0.mk (blk_below (g := gb182) (o := .cells #[.int .u64 a2_2, .int .u32 a2_3] 27 (0, 0)) (by (with_reducible repeat (first | refine blk_drewN ?_ _ | refine blk_drew ?_ | refine blk_alloc ?_ _)); exact BK182.out) hb); have n6_ := Aside0.mk (blk_below (g := gb190) (o := .cells #[.int .u64 t183, .int .u32 t184, .int .u32 t185, .int .u32 t186, .string t187, .bool t188] 31 (0, 0)) (by (with_reducible repeat (first | refine blk_drewN ?_ _ | refine blk_drew ?_ | refine blk_alloc ?_ _)); exact BK190.out) hb); have n7_ := Aside0.mk (below_step (by repeat (first | (with_reducible first | exact HB.out | apply below_alloc | apply pw_below_drewN | apply below_drew1 | refine below_set ?_ GE175.out | refine below_set ?_ GE176.out | refine below_set ?_ GE181.out | refine below_set ?_ GE182.out | refine below_set ?_ GE190.out) | exact HB.out)) hb); clear HO180; clear HO193; clear BK175; clear BK176; clear BK181; clear BK182; clear BK190; clear HB; have HO180 := n0_; have HO193 := n1_; have BK175 := n2_; have BK176 := n3_; have BK181 := n4_; have BK182 := n5_; have BK190 := n6_; have HB := n7_; clear n0_ n1_ n2_ n3_ n4_ n5_ n6_ n7_; (try clear hb); (try clear hb2); (try clear hk); (try clear hi)) | ((with_reducible refine gate_dst (N := 14) rfl ?_); (try (refine gate_guard (by rfl) ?_; dsimp only)); refine box_event ?hg (N := 14) ?hd (cs := #[.int .u64 0, .int .u32 0, .int .u32 0, .int .u32 0, .string (⟨#[]⟩ : ByteArray), .bool false]) (t := 31) ?hr ?_; (case hd => rfl); (case hg => rfl); (case hr => first | (go_simp; done) | (go_simp; rfl)); intro gb202 hg w53 hbox hb; have n0_ := Aside0.mk (Kd.R_below (Kd.R_elderB (by (with_reducible repeat (first | apply Kd.R_alloc | apply Kd.R_drewN | apply Kd.R_drew)); exact HO180.out) gb202 (Nat.le_of_eq hg.symm)) hb); have n1_ := Aside0.mk (Kd.R_below (Kd.R_elderB (by (with_reducible repeat (first | apply Kd.R_alloc | apply Kd.R_drewN | apply Kd.R_drew)); exact HO193.out) gb202 (Nat.le_of_eq hg.symm)) hb); have n2_ := Aside0.mk (blk_below (g := gb175) (o := .cells #[.int .u64 a1_0, .int .u32 a1_1, .int .u32 a1_2, .int .u32 a1_3, .string a1_4, .bool a1_5] 31 (0, 0)) (by (with_reducible repeat (first | refine blk_drewN ?_ _ | refine blk_drew ?_ | refine blk_alloc ?_ _)); exact BK175.out) hb); have n3_ := Aside0.mk (blk_below (g := gb176) (o := .cells #[.int .u64 a2_0, .int .u32 a2_1, .int .u64 a2_2, .int .u32 a2_3] 35 (0, 0)) (by (with_reducible repeat (first | refine blk_drewN ?_ _ | refine blk_drew ?_ | refine blk_alloc ?_ _)); exact BK176.out) hb); have n4_ := Aside0.mk (blk_below (g := gb181) (o := .cells #[.int .u64 a2_0, .int .u32 a2_1] 27 (0, 0)) (by (with_reducible repeat (first | refine blk_drewN ?_ _ | refine blk_drew ?_ | refine blk_alloc ?_ _)); exact BK181.out) hb); have n5_ := Aside0.mk (blk_below (g := gb182) (o := .cells #[.int .u64 a2_2, .int .u32 a2_3] 27 (0, 0)) (by (with_reducible repeat (first | refine blk_drewN ?_ _ | refine blk_drew ?_ | refine blk_alloc ?_ _)); exact BK182.out) hb); have n6_ := Aside0.mk (blk_below (g := gb190) (o := .cells #[.int .u64 t183, .int .u32 t184, .int .u32 t185, .int .u32 t186, .string t187, .bool t188] 31 (0, 0)) (by (with_reducible repeat (first | refine blk_drewN ?_ _ | refine blk_drew ?_ | refine blk_alloc ?_ _)); exact BK190.out) hb); have n7_ := Aside0.mk (below_step (by repeat (first | (with_reducible first | exact HB.out | apply below_alloc | apply pw_below_drewN | apply below_drew1 | refine below_set ?_ GE175.out | refine below_set ?_ GE176.out | refine below_set ?_ GE181.out | refine below_set ?_ GE182.out | refine below_set ?_ GE190.out) | exact HB.out)) hb); have n8_ := Aside0.mk (hbox); have n9_ := Aside0.mk ((by rw [hg]; exact (below_size (by repeat (first | (with_reducible first | exact HB.out | apply below_alloc | apply pw_below_drewN | apply below_drew1 | refine below_set ?_ GE175.out | refine below_set ?_ GE176.out | refine below_set ?_ GE181.out | refine below_set ?_ GE182.out | refine below_set ?_ GE190.out) | exact HB.out))) : w.heap.size ≤ gb202)); have n10_ := Aside0.mk ((by rw [hg]; exact (below_size (by repeat (first | (with_reducible first | exact HB.out | apply below_alloc | apply pw_below_drewN | apply below_drew1 | refine below_set ?_ GE175.out | refine below_set ?_ GE176.out | refine below_set ?_ GE181.out | refine below_set ?_ GE182.out | refine below_set ?_ GE190.out) | exact HB.out))) : w.heap.size ≤ gb202)); have n11_ := Aside0.mk ((by rw [hg]; exact Nat.ne_of_lt (blk_lt (g := gb175) (o := .cells #[.int .u64 a1_0, .int .u32 a1_1, .int .u32 a1_2, .int .u32 a1_3, .string a1_4, .bool a1_5] 31 (0, 0)) (by (with_reducible repeat (first | refine blk_drewN ?_ _ | refine blk_drew ?_ | refine blk_alloc ?_ _)); exact BK175.out)) : gb175 ≠ gb202)); have n12_ := Aside0.mk ((by rw [hg]; exact Nat.ne_of_gt (blk_lt (g := gb175) (o := .cells #[.int .u64 a1_0, .int .u32 a1_1, .int .u32 a1_2, .int .u32 a1_3, .string a1_4, .bool a1_5] 31 (0, 0)) (by (with_reducible repeat (first | refine blk_drewN ?_ _ | refine blk_drew ?_ | refine blk_alloc ?_ _)); exact BK175.out)) : gb202 ≠ gb175)); have n13_ := Aside0.mk ((by rw [hg]; exact Nat.ne_of_lt (blk_lt (g := gb176) (o := .cells #[.int .u64 a2_0, .int .u32 a2_1, .int .u64 a2_2, .int .u32 a2_3] 35 (0, 0)) (by (with_reducible repeat (first | refine blk_drewN ?_ _ | refine blk_drew ?_ | refine blk_alloc ?_ _)); exact BK176.out)) : gb176 ≠ gb202)); have n14_ := Aside0.mk ((by rw [hg]; exact Nat.ne_of_gt (blk_lt (g := gb176) (o := .cells #[.int .u64 a2_0, .int .u32 a2_1, .int .u64 a2_2, .int .u32 a2_3] 35 (0, 0)) (by (with_reducible repeat (first | refine blk_drewN ?_ _ | refine blk_drew ?_ | refine blk_alloc ?_ _)); exact BK176.out)) : gb202 ≠ gb176)); have n15_ := Aside0.mk ((by rw [hg]; exact Nat.ne_of_lt (blk_lt (g := gb181) (o := .cells #[.int .u64 a2_0, .int .u32 a2_1] 27 (0, 0)) (by (with_reducible repeat (first | refine blk_drewN ?_ _ | refine blk_drew ?_ | refine blk_alloc ?_ _)); exact BK181.out)) : gb181 ≠ gb202)); have n16_ := Aside0.mk ((by rw [hg]; exact Nat.ne_of_gt (blk_lt (g := gb181) (o := .cells #[.int .u64 a2_0, .int .u32 a2_1] 27 (0, 0)) (by (with_reducible repeat (first | refine blk_drewN ?_ _ | refine blk_drew ?_ | refine blk_alloc ?_ _)); exact BK181.out)) : gb202 ≠ gb181)); have n17_ := Aside0.mk ((by rw [hg]; exact Nat.ne_of_lt (blk_lt (g := gb182) (o := .cells #[.int .u64 a2_2, .int .u32 a2_3] 27 (0, 0)) (by (with_reducible repeat (first | refine blk_drewN ?_ _ | refine blk_drew ?_ | refine blk_alloc ?_ _)); exact BK182.out)) : gb182 ≠ gb202)); have n18_ := Aside0.mk ((by rw [hg]; exact Nat.ne_of_gt (blk_lt (g := gb182) (o := .cells #[.int .u64 a2_2, .int .u32 a2_3] 27 (0, 0)) (by (with_reducible repeat (first | refine blk_drewN ?_ _ | refine blk_drew ?_ | refine blk_alloc ?_ _)); exact BK182.out)) : gb202 ≠ gb182)); have n19_ := Aside0.mk ((by rw [hg]; exact Nat.ne_of_lt (blk_lt (g := gb190) (o := .cells #[.int .u64 t183, .int .u32 t184, .int .u32 t185, .int .u32 t186, .string t187, .bool t188] 31 (0, 0)) (by (with_reducible repeat (first | refine blk_drewN ?_ _ | refine blk_drew ?_ | refine blk_alloc ?_ _)); exact BK190.out)) : gb190 ≠ gb202)); have n20_ := Aside0.mk ((by rw [hg]; exact Nat.ne_of_gt (blk_lt (g := gb190) (o := .cells #[.int .u64 t183, .int .u32 t184, .int .u32 t185, .int .u32 t186, .string t187, .bool t188] 31 (0, 0)) (by (with_reducible repeat (first | refine blk_drewN ?_ _ | refine blk_drew ?_ | refine blk_alloc ?_ _)); exact BK190.out)) : gb202 ≠ gb190)); clear HO180; clear HO193; clear BK175; clear BK176; clear BK181; clear BK182; clear BK190; clear HB; have HO180 := n0_; have HO193 := n1_; have BK175 := n2_; have BK176 := n3_; have BK181 := n4_; have BK182 := n5_; have BK190 := n6_; have HB := n7_; have BK202 := n8_; have GW202 := n9_; have GE202 := n10_; have NB175_202 := n11_; have NB202_175 := n12_; have NB176_202 := n13_; have NB202_176 := n14_; have NB181_202 := n15_; have NB202_181 := n16_; have NB182_202 := n17_; have NB202_182 := n18_; have NB190_202 := n19_; have NB202_190 := n20_; clear n0_ n1_ n2_ n3_ n4_ n5_ n6_ n7_ n8_ n9_ n10_ n11_ n12_ n13_ n14_ n15_ n16_ n17_ n18_ n19_ n20_; clear hb hbox hg; have hnb54 := NB202_175.out; have hnc54 := NB175_202.out; have hnb55 := NB202_176.out; have hnc55 := NB176_202.out; have hnb56 := NB202_181.out; have hnc56 := NB181_202.out; have hnb57 := NB202_182.out; have hnc57 := NB182_202.out; have hnb58 := NB202_190.out; have hnc58 := NB190_202.out; have hcz59_0 : w53.cell? ⟨gb202, 0, none⟩ = some (.int .u64 0) := (blk_cell BK202.out 0).trans rfl; have hcz59_1 : w53.cell? ⟨gb202, 1, none⟩ = some (.int .u32 0) := (blk_cell BK202.out 1).trans rfl; have hcz59_2 : w53.cell? ⟨gb202, 2, none⟩ = some (.int .u32 0) := (blk_cell BK202.out 2).trans rfl; have hcz59_3 : w53.cell? ⟨gb202, 3, none⟩ = some (.int .u32 0) := (blk_cell BK202.out 3).trans rfl; have hcz59_4 : w53.cell? ⟨gb202, 4, none⟩ = some (.string (⟨#[]⟩ : ByteArray)) := (blk_cell BK202.out 4).trans rfl; have hcz59_5 : w53.cell? ⟨gb202, 5, none⟩ = some (.bool false) := (blk_cell BK202.out 5).trans rfl; have hfz59_0 := blk_frozen BK202.out 0; have hfz59_1 := blk_frozen BK202.out 1; have hfz59_2 := blk_frozen BK202.out 2; have hfz59_3 := blk_frozen BK202.out 3; have hfz59_4 := blk_frozen BK202.out 4; have hfz59_5 := blk_frozen BK202.out 5; have hnb60 := NB190_175.out; have hnc60 := NB175_190.out; have hnb61 := NB190_176.out; have hnc61 := NB176_190.out; have hnb62 := NB190_182.out; have hnc62 := NB182_190.out; have hcz63_0 : w53.cell? ⟨gb190, 0, none⟩ = some (.int .u64 t183) := (blk_cell BK190.out 0).trans rfl; have hcz63_1 : w53.cell? ⟨gb190, 1, none⟩ = some (.int .u32 t184) := (blk_cell BK190.out 1).trans rfl; have hcz63_2 : w53.cell? ⟨gb190, 2, none⟩ = some (.int .u32 t185) := (blk_cell BK190.out 2).trans rfl; have hcz63_3 : w53.cell? ⟨gb190, 3, none⟩ = some (.int .u32 t186) := (blk_cell BK190.out 3).trans rfl; have hcz63_4 : w53.cell? ⟨gb190, 4, none⟩ = some (.string t187) := (blk_cell BK190.out 4).trans rfl; have hcz63_5 : w53.cell? ⟨gb190, 5, none⟩ = some (.bool t188) := (blk_cell BK190.out 5).trans rfl; have hfz63_0 := blk_frozen BK190.out 0; have hfz63_1 := blk_frozen BK190.out 1; have hfz63_2 := blk_frozen BK190.out 2; have hfz63_3 := blk_frozen BK190.out 3; have hfz63_4 := blk_frozen BK190.out 4; have hfz63_5 := blk_frozen BK190.out 5))
              go_meet
              case rel => exact ⟨_, H', ⟨by first | omega | exact Nat.le_refl _⟩, ⟨by (with_reducible repeat (first | apply Kd.R_alloc | apply Kd.R_drewN | apply Kd.R_drew)); exact Kd.R_mono (Kd.R_far (p := ⟨gb202, 5, none⟩) (Kd.R_far (p := ⟨gb202, 4, none⟩) (Kd.R_far (p := ⟨gb202, 3, none⟩) (Kd.R_far (p := ⟨gb202, 2, none⟩) (Kd.R_far (p := ⟨gb202, 1, none⟩) (Kd.R_far (p := ⟨gb202, 0, none⟩) (Kd.R_mono HO180.out (fun k_ hk => (⟨hk, hk.2⟩ : _ ∧ k_ ≠ gb202))) (fun _ hk => hk.2) (.int .u64 t195)) (fun _ hk => hk.2) (.int .u32 t196)) (fun _ hk => hk.2) (.int .u32 t197)) (fun _ hk => hk.2) (.int .u32 t198)) (fun _ hk => hk.2) (.string t199)) (fun _ hk => hk.2) (.bool t200)) (fun _ hk => ⟨hk.1.1.1.1, hk.1.1.1.2⟩)⟩, ⟨by (with_reducible repeat (first | refine blk_drewN ?_ _ | refine blk_drew ?_ | refine blk_alloc ?_ _)); refine blk_far ?_ NB175_202.out _; (with_reducible repeat (first | refine blk_drewN ?_ _ | refine blk_drew ?_ | refine blk_alloc ?_ _)); refine blk_far ?_ NB175_202.out _; (with_reducible repeat (first | refine blk_drewN ?_ _ | refine blk_drew ?_ | refine blk_alloc ?_ _)); refine blk_far ?_ NB175_202.out _; (with_reducible repeat (first | refine blk_drewN ?_ _ | refine blk_drew ?_ | refine blk_alloc ?_ _)); refine blk_far ?_ NB175_202.out _; (with_reducible repeat (first | refine blk_drewN ?_ _ | refine blk_drew ?_ | refine blk_alloc ?_ _)); refine blk_far ?_ NB175_202.out _; (with_reducible repeat (first | refine blk_drewN ?_ _ | refine blk_drew ?_ | refine blk_alloc ?_ _)); refine blk_far ?_ NB175_202.out _; (with_reducible repeat (first | refine blk_drewN ?_ _ | refine blk_drew ?_ | refine blk_alloc ?_ _)); exact BK175.out⟩, ⟨by (with_reducible repeat (first | refine blk_drewN ?_ _ | refine blk_drew ?_ | refine blk_alloc ?_ _)); refine blk_far ?_ NB176_202.out _; (with_reducible repeat (first | refine blk_drewN ?_ _ | refine blk_drew ?_ | refine blk_alloc ?_ _)); refine blk_far ?_ NB176_202.out _; (with_reducible repeat (first | refine blk_drewN ?_ _ | refine blk_drew ?_ | refine blk_alloc ?_ _)); refine blk_far ?_ NB176_202.out _; (with_reducible repeat (first | refine blk_drewN ?_ _ | refine blk_drew ?_ | refine blk_alloc ?_ _)); refine blk_far ?_ NB176_202.out _; (with_reducible repeat (first | refine blk_drewN ?_ _ | refine blk_drew ?_ | refine blk_alloc ?_ _)); refine blk_far ?_ NB176_202.out _; (with_reducible repeat (first | refine blk_drewN ?_ _ | refine blk_drew ?_ | refine blk_alloc ?_ _)); refine blk_far ?_ NB176_202.out _; (with_reducible repeat (first | refine blk_drewN ?_ _ | refine blk_drew ?_ | refine blk_alloc ?_ _)); exact BK176.out⟩, ⟨by (with_reducible repeat (first | refine blk_drewN ?_ _ | refine blk_drew ?_ | refine blk_alloc ?_ _)); refine blk_far ?_ NB181_202.out _; (with_reducible repeat (first | refine blk_drewN ?_ _ | refine blk_drew ?_ | refine blk_alloc ?_ _)); refine blk_far ?_ NB181_202.out _; (with_reducible repeat (first | refine blk_drewN ?_ _ | refine blk_drew ?_ | refine blk_alloc ?_ _)); refine blk_far ?_ NB181_202.out _; (with_reducible repeat (first | refine blk_drewN ?_ _ | refine blk_drew ?_ | refine blk_alloc ?_ _)); refine blk_far ?_ NB181_202.out _; (with_reducible repeat (first | refine blk_drewN ?_ _ | refine blk_drew ?_ | refine blk_alloc ?_ _)); refine blk_far ?_ NB181_202.out _; (with_reducible repeat (first | refine blk_drewN ?_ _ | refine blk_drew ?_ | refine blk_alloc ?_ _)); refine blk_far ?_ NB181_202.out _; (with_reducible repeat (first | refine blk_drewN ?_ _ | refine blk_drew ?_ | refine blk_alloc ?_ _)); exact BK181.out⟩, ⟨by (with_reducible repeat (first | refine blk_drewN ?_ _ | refine blk_drew ?_ | refine blk_alloc ?_ _)); refine blk_far ?_ NB182_202.out _; (with_reducible repeat (first | refine blk_drewN ?_ _ | refine blk_drew ?_ | refine blk_alloc ?_ _)); refine blk_far ?_ NB182_202.out _; (with_reducible repeat (first | refine blk_drewN ?_ _ | refine blk_drew ?_ | refine blk_alloc ?_ _)); refine blk_far ?_ NB182_202.out _; (with_reducible repeat (first | refine blk_drewN ?_ _ | refine blk_drew ?_ | refine blk_alloc ?_ _)); refine blk_far ?_ NB182_202.out _; (with_reducible repeat (first | refine blk_drewN ?_ _ | refine blk_drew ?_ | refine blk_alloc ?_ _)); refine blk_far ?_ NB182_202.out _; (with_reducible repeat (first | refine blk_drewN ?_ _ | refine blk_drew ?_ | refine blk_alloc ?_ _)); refine blk_far ?_ NB182_202.out _; (with_reducible repeat (first | refine blk_drewN ?_ _ | refine blk_drew ?_ | refine blk_alloc ?_ _)); exact BK182.out⟩, ⟨by (with_reducible repeat (first | refine blk_drewN ?_ _ | refine blk_drew ?_ | refine blk_alloc ?_ _)); refine blk_far ?_ NB190_202.out _; (with_reducible repeat (first | refine blk_drewN ?_ _ | refine blk_drew ?_ | refine blk_alloc ?_ _)); refine blk_far ?_ NB190_202.out _; (with_reducible repeat (first | refine blk_drewN ?_ _ | refine blk_drew ?_ | refine blk_alloc ?_ _)); refine blk_far ?_ NB190_202.out _; (with_reducible repeat (first | refine blk_drewN ?_ _ | refine blk_drew ?_ | refine blk_alloc ?_ _)); refine blk_far ?_ NB190_202.out _; (with_reducible repeat (first | refine blk_drewN ?_ _ | refine blk_drew ?_ | refine blk_alloc ?_ _)); refine blk_far ?_ NB190_202.out _; (with_reducible repeat (first | refine blk_drewN ?_ _ | refine blk_drew ?_ | refine blk_alloc ?_ _)); refine blk_far ?_ NB190_202.out _; (with_reducible repeat (first | refine blk_drewN ?_ _ | refine blk_drew ?_ | refine blk_alloc ?_ _)); exact BK190.out⟩, ⟨by repeat (first | (with_reducible first | exact HB.out | apply below_alloc | apply pw_below_drewN | apply below_drew1 | refine below_set ?_ GE175.out | refine below_set ?_ GE176.out | refine below_set ?_ GE181.out | refine below_set ?_ GE182.out | refine below_set ?_ GE190.out | refine below_set ?_ GE202.out) | exact HB.out)⟩⟩
            · rw [if_neg c45] at H
              have c45b0 : ((t195 == t183 && (t196 == t184)) && ((t197 == t185 && (t198 == t186)) && (t199.toList == t187.toList && (t200 == t188)))) = false := by simpa using c45
              clear c45
              by_cases c64 : t201 = true
              · subst c64
                have H1 : (if (((t195 == a1_0 && (t196 == a1_1)) && ((t197 == a1_2 && (t198 == a1_3)) && (t199.toList == a1_4.toList && (t200 == a1_5)))) = true) then (dovecotelaw07_ChainSees.j0 k t178 t189 a2_0 a2_1 a2_2 a2_3 t183 t184 t185 t186 t187 t188) else (some false)) = some r := by rw [if_pos rfl] at H; exact H
                clear H
                have H := H1
                clear H1
                by_cases c65 : (((t195 == a1_0 && (t196 == a1_1)) && ((t197 == a1_2 && (t198 == a1_3)) && (t199.toList == a1_4.toList && (t200 == a1_5)))) = true)
                · rw [if_pos c65] at H
                  have c65b0 : ((t195 == a1_0 && (t196 == a1_1)) && ((t197 == a1_2 && (t198 == a1_3)) && (t199.toList == a1_4.toList && (t200 == a1_5)))) = true := c65
                  clear c65
                  have H' := Aside0.mk H
                  clear H
                  have hnb66 := NB181_175.out
                  have hnc66 := NB175_181.out
                  have hnb67 := NB181_176.out
                  have hnc67 := NB176_181.out
                  have hnb68 := NB181_182.out
                  have hnc68 := NB182_181.out
                  have hnb69 := NB181_190.out
                  have hnc69 := NB190_181.out
                  have hcz70_0 : w41.cell? ⟨gb181, 0, none⟩ = some (.int .u64 a2_0) := (blk_cell BK181.out 0).trans rfl
                  have hcz70_1 : w41.cell? ⟨gb181, 1, none⟩ = some (.int .u32 a2_1) := (blk_cell BK181.out 1).trans rfl
                  have hfz70_0 := blk_frozen BK181.out 0
                  have hfz70_1 := blk_frozen BK181.out 1
                  obtain ⟨Ao71, co71, eo71⟩ := Kd.R_slice HO193.out
                  subst eo71
                  go_wp2_with (first | ((with_reducible refine gate_callee (f := 16) rfl ?_); refine goesL_ (some 49) rfl rfl Try.func16 (by kernel_rfl) rfl #[.slice Ao71 t191.length co71, .agg #[.int .u64 a2_0, .int .u32 a2_1]] rfl (by (try simp only [List.map_toArray, List.map_cons, List.map_nil]); first | done | rfl | (simp only [List.length_drop, List.length_take]; rfl)) ?_; (with_reducible refine (chain_At.calls k _ _ t191 a2_0 a2_1 t195 t196 t197 t198 t199 t200 true _ ?side1 ?side2 A43.out).mono ?_); (case side1 => repeat (first | exact (Kd.R_reads' HO193.out).2.2 | (with_reducible refine Kd.C_alloc ?_ _) | (with_reducible refine Kd.C_drewN ?_ _) | (with_reducible refine Kd.C_drew ?_))); (case side2 => exact (Kd.R_reads' HO193.out).2.1); rintro e w72 ⟨rfl, hb⟩; refine ⟨_, rfl, ?_⟩; have n0_ := Aside0.mk (Kd.R_below (by (with_reducible repeat (first | apply Kd.R_alloc | apply Kd.R_drewN | apply Kd.R_drew)); exact HO180.out) hb); have n1_ := Aside0.mk (Kd.R_below (by (with_reducible repeat (first | apply Kd.R_alloc | apply Kd.R_drewN | apply Kd.R_drew)); exact HO193.out) hb); have n2_ := Aside0.mk (blk_below (g := gb175) (o := .cells #[.int .u64 a1_0, .int .u32 a1_1, .int .u32 a1_2, .int .u32 a1_3, .string a1_4, .bool a1_5] 31 (0, 0)) (by (with_reducible repeat (first | refine blk_drewN ?_ _ | refine blk_drew ?_ | refine blk_alloc ?_ _)); exact BK175.out) hb); have n3_ := Aside0.mk (blk_below (g := gb176) (o := .cells #[.int .u64 a2_0, .int .u32 a2_1, .int .u64 a2_2, .int .u32 a2_3] 35 (0, 0)) (by (with_reducible repeat (first | refine blk_drewN ?_ _ | refine blk_drew ?_ | refine blk_alloc ?_ _)); exact BK176.out) hb); have n4_ := Aside0.mk (blk_below (g := gb181) (o := .cells #[.int .u64 a2_0, .int .u32 a2_1] 27 (0, 0)) (by (with_reducible repeat (first | refine blk_drewN ?_ _ | refine blk_drew ?_ | refine blk_alloc ?_ _)); exact BK181.out) hb); have n5_ := Aside0.mk (blk_below (g := gb182) (o := .cells #[.int .u64 a2_2, .int .u32 a2_3] 27 (0, 0)) (by (with_reducible repeat (first | refine blk_drewN ?_ _ | refine blk_drew ?_ | refine blk_alloc ?_ _)); exact BK182.out) hb); have n6_ := Aside0.mk (blk_below (g := gb190) (o := .cells #[.int .u64 t183, .int .u32 t184, .int .u32 t185, .int .u32 t186, .string t187, .bool t188] 31 (0, 0)) (by (with_reducible repeat (first | refine blk_drewN ?_ _ | refine blk_drew ?_ | refine blk_alloc ?_ _)); exact BK190.out) hb); have n7_ := Aside0.mk (below_step (by repeat (first | (with_reducible first | exact HB.out | apply below_alloc | apply pw_below_drewN | apply below_drew1 | refine below_set ?_ GE175.out | refine below_set ?_ GE176.out | refine below_set ?_ GE181.out | refine below_set ?_ GE182.out | refine below_set ?_ GE190.out) | exact HB.out)) hb); clear HO180; clear HO193; clear BK175; clear BK176; clear BK181; clear BK182; clear BK190; clear HB; have HO180 := n0_; have HO193 := n1_; have BK175 := n2_; have BK176 := n3_; have BK181 := n4_; have BK182 := n5_; have BK190 := n6_; have HB := n7_; clear n0_ n1_ n2_ n3_ n4_ n5_ n6_ n7_; (try clear hb); (try clear hb2); (try clear hk); (try clear hi)) | ((with_reducible refine gate_dst (N := 14) rfl ?_); (try (refine gate_guard (by rfl) ?_; dsimp only)); refine box_event ?hg (N := 14) ?hd (cs := #[.int .u64 0, .int .u32 0, .int .u32 0, .int .u32 0, .string (⟨#[]⟩ : ByteArray), .bool false]) (t := 31) ?hr ?_; (case hd => rfl); (case hg => rfl); (case hr => first | (go_simp; done) | (go_simp; rfl)); intro gb202 hg w73 hbox hb; have n0_ := Aside0.mk (Kd.R_below (Kd.R_elderB (by (with_reducible repeat (first | apply Kd.R_alloc | apply Kd.R_drewN | apply Kd.R_drew)); exact HO180.out) gb202 (Nat.le_of_eq hg.symm)) hb); have n1_ := Aside0.mk (Kd.R_below (Kd.R_elderB (by (with_reducible repeat (first | apply Kd.R_alloc | apply Kd.R_drewN | apply Kd.R_drew)); exact HO193.out) gb202 (Nat.le_of_eq hg.symm)) hb); have n2_ := Aside0.mk (blk_below (g := gb175) (o := .cells #[.int .u64 a1_0, .int .u32 a1_1, .int .u32 a1_2, .int .u32 a1_3, .string a1_4, .bool a1_5] 31 (0, 0)) (by (with_reducible repeat (first | refine blk_drewN ?_ _ | refine blk_drew ?_ | refine blk_alloc ?_ _)); exact BK175.out) hb); have n3_ := Aside0.mk (blk_below (g := gb176) (o := .cells #[.int .u64 a2_0, .int .u32 a2_1, .int .u64 a2_2, .int .u32 a2_3] 35 (0, 0)) (by (with_reducible repeat (first | refine blk_drewN ?_ _ | refine blk_drew ?_ | refine blk_alloc ?_ _)); exact BK176.out) hb); have n4_ := Aside0.mk (blk_below (g := gb181) (o := .cells #[.int .u64 a2_0, .int .u32 a2_1] 27 (0, 0)) (by (with_reducible repeat (first | refine blk_drewN ?_ _ | refine blk_drew ?_ | refine blk_alloc ?_ _)); exact BK181.out) hb); have n5_ := Aside0.mk (blk_below (g := gb182) (o := .cells #[.int .u64 a2_2, .int .u32 a2_3] 27 (0, 0)) (by (with_reducible repeat (first | refine blk_drewN ?_ _ | refine blk_drew ?_ | refine blk_alloc ?_ _)); exact BK182.out) hb); have n6_ := Aside0.mk (blk_below (g := gb190) (o := .cells #[.int .u64 t183, .int .u32 t184, .int .u32 t185, .int .u32 t186, .string t187, .bool t188] 31 (0, 0)) (by (with_reducible repeat (first | refine blk_drewN ?_ _ | refine blk_drew ?_ | refine blk_alloc ?_ _)); exact BK190.out) hb); have n7_ := Aside0.mk (below_step (by repeat (first | (with_reducible first | exact HB.out | apply below_alloc | apply pw_below_drewN | apply below_drew1 | refine below_set ?_ GE175.out | refine below_set ?_ GE176.out | refine below_set ?_ GE181.out | refine below_set ?_ GE182.out | refine below_set ?_ GE190.out) | exact HB.out)) hb); have n8_ := Aside0.mk (hbox); have n9_ := Aside0.mk ((by rw [hg]; exact (below_size (by repeat (first | (with_reducible first | exact HB.out | apply below_alloc | apply pw_below_drewN | apply below_drew1 | refine below_set ?_ GE175.out | refine below_set ?_ GE176.out | refine below_set ?_ GE181.out | refine below_set ?_ GE182.out | refine below_set ?_ GE190.out) | exact HB.out))) : w.heap.size ≤ gb202)); have n10_ := Aside0.mk ((by rw [hg]; exact (below_size (by repeat (first | (with_reducible first | exact HB.out | apply below_alloc | apply pw_below_drewN | apply below_drew1 | refine below_set ?_ GE175.out | refine below_set ?_ GE176.out | refine below_set ?_ GE181.out | refine below_set ?_ GE182.out | refine below_set ?_ GE190.out) | exact HB.out))) : w.heap.size ≤ gb202)); have n11_ := Aside0.mk ((by rw [hg]; exact Nat.ne_of_lt (blk_lt (g := gb175) (o := .cells #[.int .u64 a1_0, .int .u32 a1_1, .int .u32 a1_2, .int .u32 a1_3, .string a1_4, .bool a1_5] 31 (0, 0)) (by (with_reducible repeat (first | refine blk_drewN ?_ _ | refine blk_drew ?_ | refine blk_alloc ?_ _)); exact BK175.out)) : gb175 ≠ gb202)); have n12_ := Aside0.mk ((by rw [hg]; exact Nat.ne_of_gt (blk_lt (g := gb175) (o := .cells #[.int .u64 a1_0, .int .u32 a1_1, .int .u32 a1_2, .int .u32 a1_3, .string a1_4, .bool a1_5] 31 (0, 0)) (by (with_reducible repeat (first | refine blk_drewN ?_ _ | refine blk_drew ?_ | refine blk_alloc ?_ _)); exact BK175.out)) : gb202 ≠ gb175)); have n13_ := Aside0.mk ((by rw [hg]; exact Nat.ne_of_lt (blk_lt (g := gb176) (o := .cells #[.int .u64 a2_0, .int .u32 a2_1, .int .u64 a2_2, .int .u32 a2_3] 35 (0, 0)) (by (with_reducible repeat (first | refine blk_drewN ?_ _ | refine blk_drew ?_ | refine blk_alloc ?_ _)); exact BK176.out)) : gb176 ≠ gb202)); have n14_ := Aside0.mk ((by rw [hg]; exact Nat.ne_of_gt (blk_lt (g := gb176) (o := .cells #[.int .u64 a2_0, .int .u32 a2_1, .int .u64 a2_2, .int .u32 a2_3] 35 (0, 0)) (by (with_reducible repeat (first | refine blk_drewN ?_ _ | refine blk_drew ?_ | refine blk_alloc ?_ _)); exact BK176.out)) : gb202 ≠ gb176)); have n15_ := Aside0.mk ((by rw [hg]; exact Nat.ne_of_lt (blk_lt (g := gb181) (o := .cells #[.int .u64 a2_0, .int .u32 a2_1] 27 (0, 0)) (by (with_reducible repeat (first | refine blk_drewN ?_ _ | refine blk_drew ?_ | refine blk_alloc ?_ _)); exact BK181.out)) : gb181 ≠ gb202)); have n16_ := Aside0.mk ((by rw [hg]; exact Nat.ne_of_gt (blk_lt (g := gb181) (o := .cells #[.int .u64 a2_0, .int .u32 a2_1] 27 (0, 0)) (by (with_reducible repeat (first | refine blk_drewN ?_ _ | refine blk_drew ?_ | refine blk_alloc ?_ _)); exact BK181.out)) : gb202 ≠ gb181)); have n17_ := Aside0.mk ((by rw [hg]; exact Nat.ne_of_lt (blk_lt (g := gb182) (o := .cells #[.int .u64 a2_2, .int .u32 a2_3] 27 (0, 0)) (by (with_reducible repeat (first | refine blk_drewN ?_ _ | refine blk_drew ?_ | refine blk_alloc ?_ _)); exact BK182.out)) : gb182 ≠ gb202)); have n18_ := Aside0.mk ((by rw [hg]; exact Nat.ne_of_gt (blk_lt (g := gb182) (o := .cells #[.int .u64 a2_2, .int .u32 a2_3] 27 (0, 0)) (by (with_reducible repeat (first | refine blk_drewN ?_ _ | refine blk_drew ?_ | refine blk_alloc ?_ _)); exact BK182.out)) : gb202 ≠ gb182)); have n19_ := Aside0.mk ((by rw [hg]; exact Nat.ne_of_lt (blk_lt (g := gb190) (o := .cells #[.int .u64 t183, .int .u32 t184, .int .u32 t185, .int .u32 t186, .string t187, .bool t188] 31 (0, 0)) (by (with_reducible repeat (first | refine blk_drewN ?_ _ | refine blk_drew ?_ | refine blk_alloc ?_ _)); exact BK190.out)) : gb190 ≠ gb202)); have n20_ := Aside0.mk ((by rw [hg]; exact Nat.ne_of_gt (blk_lt (g := gb190) (o := .cells #[.int .u64 t183, .int .u32 t184, .int .u32 t185, .int .u32 t186, .string t187, .bool t188] 31 (0, 0)) (by (with_reducible repeat (first | refine blk_drewN ?_ _ | refine blk_drew ?_ | refine blk_alloc ?_ _)); exact BK190.out)) : gb202 ≠ gb190)); clear HO180; clear HO193; clear BK175; clear BK176; clear BK181; clear BK182; clear BK190; clear HB; have HO180 := n0_; have HO193 := n1_; have BK175 := n2_; have BK176 := n3_; have BK181 := n4_; have BK182 := n5_; have BK190 := n6_; have HB := n7_; have BK202 := n8_; have GW202 := n9_; have GE202 := n10_; have NB175_202 := n11_; have NB202_175 := n12_; have NB176_202 := n13_; have NB202_176 := n14_; have NB181_202 := n15_; have NB202_181 := n16_; have NB182_202 := n17_; have NB202_182 := n18_; have NB190_202 := n19_; have NB202_190 := n20_; clear n0_ n1_ n2_ n3_ n4_ n5_ n6_ n7_ n8_ n9_ n10_ n11_ n12_ n13_ n14_ n15_ n16_ n17_ n18_ n19_ n20_; clear hb hbox hg; have hnb74 := NB202_175.out; have hnc74 := NB175_202.out; have hnb75 := NB202_176.out; have hnc75 := NB176_202.out; have hnb76 := NB202_181.out; have hnc76 := NB181_202.out; have hnb77 := NB202_182.out; have hnc77 := NB182_202.out; have hnb78 := NB202_190.out; have hnc78 := NB190_202.out; have hcz79_0 : w73.cell? ⟨gb202, 0, none⟩ = some (.int .u64 0) := (blk_cell BK202.out 0).trans rfl; have hcz79_1 : w73.cell? ⟨gb202, 1, none⟩ = some (.int .u32 0) := (blk_cell BK202.out 1).trans rfl; have hcz79_2 : w73.cell? ⟨gb202, 2, none⟩ = some (.int .u32 0) := (blk_cell BK202.out 2).trans rfl; have hcz79_3 : w73.cell? ⟨gb202, 3, none⟩ = some (.int .u32 0) := (blk_cell BK202.out 3).trans rfl; have hcz79_4 : w73.cell? ⟨gb202, 4, none⟩ = some (.string (⟨#[]⟩ : ByteArray)) := (blk_cell BK202.out 4).trans rfl; have hcz79_5 : w73.cell? ⟨gb202, 5, none⟩ = some (.bool false) := (blk_cell BK202.out 5).trans rfl; have hfz79_0 := blk_frozen BK202.out 0; have hfz79_1 := blk_frozen BK202.out 1; have hfz79_2 := blk_frozen BK202.out 2; have hfz79_3 := blk_frozen BK202.out 3; have hfz79_4 := blk_frozen BK202.out 4; have hfz79_5 := blk_frozen BK202.out 5; have hnb80 := NB190_175.out; have hnc80 := NB175_190.out; have hnb81 := NB190_176.out; have hnc81 := NB176_190.out; have hnb82 := NB190_182.out; have hnc82 := NB182_190.out; have hcz83_0 : w73.cell? ⟨gb190, 0, none⟩ = some (.int .u64 t183) := (blk_cell BK190.out 0).trans rfl; have hcz83_1 : w73.cell? ⟨gb190, 1, none⟩ = some (.int .u32 t184) := (blk_cell BK190.out 1).trans rfl; have hcz83_2 : w73.cell? ⟨gb190, 2, none⟩ = some (.int .u32 t185) := (blk_cell BK190.out 2).trans rfl; have hcz83_3 : w73.cell? ⟨gb190, 3, none⟩ = some (.int .u32 t186) := (blk_cell BK190.out 3).trans rfl; have hcz83_4 : w73.cell? ⟨gb190, 4, none⟩ = some (.string t187) := (blk_cell BK190.out 4).trans rfl; have hcz83_5 : w73.cell? ⟨gb190, 5, none⟩ = some (.bool t188) := (blk_cell BK190.out 5).trans rfl; have hfz83_0 := blk_frozen BK190.out 0; have hfz83_1 := blk_frozen BK190.out 1; have hfz83_2 := blk_frozen BK190.out 2; have hfz83_3 := blk_frozen BK190.out 3; have hfz83_4 := blk_frozen BK190.out 4; have hfz83_5 := blk_frozen BK190.out 5; have hnb84 := NB175_176.out; have hnc84 := NB176_175.out; have hnb85 := NB175_182.out; have hnc85 := NB182_175.out; have hcz86_0 : w73.cell? ⟨gb175, 0, none⟩ = some (.int .u64 a1_0) := (blk_cell BK175.out 0).trans rfl; have hcz86_1 : w73.cell? ⟨gb175, 1, none⟩ = some (.int .u32 a1_1) := (blk_cell BK175.out 1).trans rfl; have hcz86_2 : w73.cell? ⟨gb175, 2, none⟩ = some (.int .u32 a1_2) := (blk_cell BK175.out 2).trans rfl; have hcz86_3 : w73.cell? ⟨gb175, 3, none⟩ = some (.int .u32 a1_3) := (blk_cell BK175.out 3).trans rfl; have hcz86_4 : w73.cell? ⟨gb175, 4, none⟩ = some (.string a1_4) := (blk_cell BK175.out 4).trans rfl; have hcz86_5 : w73.cell? ⟨gb175, 5, none⟩ = some (.bool a1_5) := (blk_cell BK175.out 5).trans rfl; have hfz86_0 := blk_frozen BK175.out 0; have hfz86_1 := blk_frozen BK175.out 1; have hfz86_2 := blk_frozen BK175.out 2; have hfz86_3 := blk_frozen BK175.out 3; have hfz86_4 := blk_frozen BK175.out 4; have hfz86_5 := blk_frozen BK175.out 5))
                  go_meet
                  case rel => exact ⟨_, H', ⟨by first | omega | exact Nat.le_refl _⟩, ⟨by (with_reducible repeat (first | apply Kd.R_alloc | apply Kd.R_drewN | apply Kd.R_drew)); exact Kd.R_mono (Kd.R_far (p := ⟨gb202, 5, none⟩) (Kd.R_far (p := ⟨gb202, 4, none⟩) (Kd.R_far (p := ⟨gb202, 3, none⟩) (Kd.R_far (p := ⟨gb202, 2, none⟩) (Kd.R_far (p := ⟨gb202, 1, none⟩) (Kd.R_far (p := ⟨gb202, 0, none⟩) (Kd.R_mono HO180.out (fun k_ hk => (⟨hk, hk.2⟩ : _ ∧ k_ ≠ gb202))) (fun _ hk => hk.2) (.int .u64 t195)) (fun _ hk => hk.2) (.int .u32 t196)) (fun _ hk => hk.2) (.int .u32 t197)) (fun _ hk => hk.2) (.int .u32 t198)) (fun _ hk => hk.2) (.string t199)) (fun _ hk => hk.2) (.bool t200)) (fun _ hk => ⟨hk.1.1.1.1, hk.1.1.1.2⟩)⟩, ⟨by (with_reducible repeat (first | refine blk_drewN ?_ _ | refine blk_drew ?_ | refine blk_alloc ?_ _)); refine blk_far ?_ NB175_202.out _; (with_reducible repeat (first | refine blk_drewN ?_ _ | refine blk_drew ?_ | refine blk_alloc ?_ _)); refine blk_far ?_ NB175_202.out _; (with_reducible repeat (first | refine blk_drewN ?_ _ | refine blk_drew ?_ | refine blk_alloc ?_ _)); refine blk_far ?_ NB175_202.out _; (with_reducible repeat (first | refine blk_drewN ?_ _ | refine blk_drew ?_ | refine blk_alloc ?_ _)); refine blk_far ?_ NB175_202.out _; (with_reducible repeat (first | refine blk_drewN ?_ _ | refine blk_drew ?_ | refine blk_alloc ?_ _)); refine blk_far ?_ NB175_202.out _; (with_reducible repeat (first | refine blk_drewN ?_ _ | refine blk_drew ?_ | refine blk_alloc ?_ _)); refine blk_far ?_ NB175_202.out _; (with_reducible repeat (first | refine blk_drewN ?_ _ | refine blk_drew ?_ | refine blk_alloc ?_ _)); exact BK175.out⟩, ⟨by (with_reducible repeat (first | refine blk_drewN ?_ _ | refine blk_drew ?_ | refine blk_alloc ?_ _)); refine blk_far ?_ NB176_202.out _; (with_reducible repeat (first | refine blk_drewN ?_ _ | refine blk_drew ?_ | refine blk_alloc ?_ _)); refine blk_far ?_ NB176_202.out _; (with_reducible repeat (first | refine blk_drewN ?_ _ | refine blk_drew ?_ | refine blk_alloc ?_ _)); refine blk_far ?_ NB176_202.out _; (with_reducible repeat (first | refine blk_drewN ?_ _ | refine blk_drew ?_ | refine blk_alloc ?_ _)); refine blk_far ?_ NB176_202.out _; (with_reducible repeat (first | refine blk_drewN ?_ _ | refine blk_drew ?_ | refine blk_alloc ?_ _)); refine blk_far ?_ NB176_202.out _; (with_reducible repeat (first | refine blk_drewN ?_ _ | refine blk_drew ?_ | refine blk_alloc ?_ _)); refine blk_far ?_ NB176_202.out _; (with_reducible repeat (first | refine blk_drewN ?_ _ | refine blk_drew ?_ | refine blk_alloc ?_ _)); exact BK176.out⟩, ⟨by (with_reducible repeat (first | refine blk_drewN ?_ _ | refine blk_drew ?_ | refine blk_alloc ?_ _)); refine blk_far ?_ NB181_202.out _; (with_reducible repeat (first | refine blk_drewN ?_ _ | refine blk_drew ?_ | refine blk_alloc ?_ _)); refine blk_far ?_ NB181_202.out _; (with_reducible repeat (first | refine blk_drewN ?_ _ | refine blk_drew ?_ | refine blk_alloc ?_ _)); refine blk_far ?_ NB181_202.out _; (with_reducible repeat (first | refine blk_drewN ?_ _ | refine blk_drew ?_ | refine blk_alloc ?_ _)); refine blk_far ?_ NB181_202.out _; (with_reducible repeat (first | refine blk_drewN ?_ _ | refine blk_drew ?_ | refine blk_alloc ?_ _)); refine blk_far ?_ NB181_202.out _; (with_reducible repeat (first | refine blk_drewN ?_ _ | refine blk_drew ?_ | refine blk_alloc ?_ _)); refine blk_far ?_ NB181_202.out _; (with_reducible repeat (first | refine blk_drewN ?_ _ | refine blk_drew ?_ | refine blk_alloc ?_ _)); exact BK181.out⟩, ⟨by (with_reducible repeat (first | refine blk_drewN ?_ _ | refine blk_drew ?_ | refine blk_alloc ?_ _)); refine blk_far ?_ NB182_202.out _; (with_reducible repeat (first | refine blk_drewN ?_ _ | refine blk_drew ?_ | refine blk_alloc ?_ _)); refine blk_far ?_ NB182_202.out _; (with_reducible repeat (first | refine blk_drewN ?_ _ | refine blk_drew ?_ | refine blk_alloc ?_ _)); refine blk_far ?_ NB182_202.out _; (with_reducible repeat (first | refine blk_drewN ?_ _ | refine blk_drew ?_ | refine blk_alloc ?_ _)); refine blk_far ?_ NB182_202.out _; (with_reducible repeat (first | refine blk_drewN ?_ _ | refine blk_drew ?_ | refine blk_alloc ?_ _)); refine blk_far ?_ NB182_202.out _; (with_reducible repeat (first | refine blk_drewN ?_ _ | refine blk_drew ?_ | refine blk_alloc ?_ _)); refine blk_far ?_ NB182_202.out _; (with_reducible repeat (first | refine blk_drewN ?_ _ | refine blk_drew ?_ | refine blk_alloc ?_ _)); exact BK182.out⟩, ⟨by (with_reducible repeat (first | refine blk_drewN ?_ _ | refine blk_drew ?_ | refine blk_alloc ?_ _)); refine blk_far ?_ NB190_202.out _; (with_reducible repeat (first | refine blk_drewN ?_ _ | refine blk_drew ?_ | refine blk_alloc ?_ _)); refine blk_far ?_ NB190_202.out _; (with_reducible repeat (first | refine blk_drewN ?_ _ | refine blk_drew ?_ | refine blk_alloc ?_ _)); refine blk_far ?_ NB190_202.out _; (with_reducible repeat (first | refine blk_drewN ?_ _ | refine blk_drew ?_ | refine blk_alloc ?_ _)); refine blk_far ?_ NB190_202.out _; (with_reducible repeat (first | refine blk_drewN ?_ _ | refine blk_drew ?_ | refine blk_alloc ?_ _)); refine blk_far ?_ NB190_202.out _; (with_reducible repeat (first | refine blk_drewN ?_ _ | refine blk_drew ?_ | refine blk_alloc ?_ _)); refine blk_far ?_ NB190_202.out _; (with_reducible repeat (first | refine blk_drewN ?_ _ | refine blk_drew ?_ | refine blk_alloc ?_ _)); exact BK190.out⟩, ⟨by repeat (first | (with_reducible first | exact HB.out | apply below_alloc | apply pw_below_drewN | apply below_drew1 | refine below_set ?_ GE175.out | refine below_set ?_ GE176.out | refine below_set ?_ GE181.out | refine below_set ?_ GE182.out | refine below_set ?_ GE190.out | refine below_set ?_ GE202.out) | exact HB.out)⟩⟩
                · rw [if_neg c65] at H
                  exact absurd ((Option.some.inj H).trans hrt.out) (by decide)
              · replace c64 := Bool.eq_false_iff.mpr c64
                subst c64
                have H1 : (some false) = some r := by rw [if_neg (show ¬ (false = true) by decide)] at H; exact H
                exact absurd ((Option.some.inj H1).trans hrt.out) (by decide)
          · rw [if_neg c44] at H
            have c44b0 : (t201 == t189) = false := by simpa using c44
            (try (have c44b1 : decide (t201 = t189) = false := by simpa using c44))
            (try (have c44b2 : (t201 == t189) = false := by simpa using c44))
            (try (have c44b3 : ¬ (t201 = t189) := by simpa using c44))
            clear c44
            by_cases c126 : t201 = true
            · subst c126
              have H1 : (if (((t195 == a1_0 && (t196 == a1_1)) && ((t197 == a1_2 && (t198 == a1_3)) && (t199.toList == a1_4.toList && (t200 == a1_5)))) = true) then (dovecotelaw07_ChainSees.j0 k t178 t189 a2_0 a2_1 a2_2 a2_3 t183 t184 t185 t186 t187 t188) else (some false)) = some r := by rw [if_pos rfl] at H; exact H
              clear H
              have H := H1
              clear H1
              by_cases c127 : (((t195 == a1_0 && (t196 == a1_1)) && ((t197 == a1_2 && (t198 == a1_3)) && (t199.toList == a1_4.toList && (t200 == a1_5)))) = true)
              · rw [if_pos c127] at H
                have c127b0 : ((t195 == a1_0 && (t196 == a1_1)) && ((t197 == a1_2 && (t198 == a1_3)) && (t199.toList == a1_4.toList && (t200 == a1_5)))) = true := c127
                clear c127
                have H' := Aside0.mk H
                clear H
                have hnb128 := NB181_175.out
                have hnc128 := NB175_181.out
                have hnb129 := NB181_176.out
                have hnc129 := NB176_181.out
                have hnb130 := NB181_182.out
                have hnc130 := NB182_181.out
                have hnb131 := NB181_190.out
                have hnc131 := NB190_181.out
                have hcz132_0 : w41.cell? ⟨gb181, 0, none⟩ = some (.int .u64 a2_0) := (blk_cell BK181.out 0).trans rfl
                have hcz132_1 : w41.cell? ⟨gb181, 1, none⟩ = some (.int .u32 a2_1) := (blk_cell BK181.out 1).trans rfl
                have hfz132_0 := blk_frozen BK181.out 0
                have hfz132_1 := blk_frozen BK181.out 1
                obtain ⟨Ao133, co133, eo133⟩ := Kd.R_slice HO193.out
                subst eo133
                go_wp2_with (first | ((with_reducible refine gate_callee (f := 16) rfl ?_); refine goesL_ (some 49) rfl rfl Try.func16 (by kernel_rfl) rfl #[.slice Ao133 t191.length co133, .agg #[.int .u64 a2_0, .int .u32 a2_1]] rfl (by (try simp only [List.map_toArray, List.map_cons, List.map_nil]); first | done | rfl | (simp only [List.length_drop, List.length_take]; rfl)) ?_; (with_reducible refine (chain_At.calls k _ _ t191 a2_0 a2_1 t195 t196 t197 t198 t199 t200 true _ ?side1 ?side2 A43.out).mono ?_); (case side1 => repeat (first | exact (Kd.R_reads' HO193.out).2.2 | (with_reducible refine Kd.C_alloc ?_ _) | (with_reducible refine Kd.C_drewN ?_ _) | (with_reducible refine Kd.C_drew ?_))); (case side2 => exact (Kd.R_reads' HO193.out).2.1); rintro e w134 ⟨rfl, hb⟩; refine ⟨_, rfl, ?_⟩; have n0_ := Aside0.mk (Kd.R_below (by (with_reducible repeat (first | apply Kd.R_alloc | apply Kd.R_drewN | apply Kd.R_drew)); exact HO180.out) hb); have n1_ := Aside0.mk (Kd.R_below (by (with_reducible repeat (first | apply Kd.R_alloc | apply Kd.R_drewN | apply Kd.R_drew)); exact HO193.out) hb); have n2_ := Aside0.mk (blk_below (g := gb175) (o := .cells #[.int .u64 a1_0, .int .u32 a1_1, .int .u32 a1_2, .int .u32 a1_3, .string a1_4, .bool a1_5] 31 (0, 0)) (by (with_reducible repeat (first | refine blk_drewN ?_ _ | refine blk_drew ?_ | refine blk_alloc ?_ _)); exact BK175.out) hb); have n3_ := Aside0.mk (blk_below (g := gb176) (o := .cells #[.int .u64 a2_0, .int .u32 a2_1, .int .u64 a2_2, .int .u32 a2_3] 35 (0, 0)) (by (with_reducible repeat (first | refine blk_drewN ?_ _ | refine blk_drew ?_ | refine blk_alloc ?_ _)); exact BK176.out) hb); have n4_ := Aside0.mk (blk_below (g := gb181) (o := .cells #[.int .u64 a2_0, .int .u32 a2_1] 27 (0, 0)) (by (with_reducible repeat (first | refine blk_drewN ?_ _ | refine blk_drew ?_ | refine blk_alloc ?_ _)); exact BK181.out) hb); have n5_ := Aside0.mk (blk_below (g := gb182) (o := .cells #[.int .u64 a2_2, .int .u32 a2_3] 27 (0, 0)) (by (with_reducible repeat (first | refine blk_drewN ?_ _ | refine blk_drew ?_ | refine blk_alloc ?_ _)); exact BK182.out) hb); have n6_ := Aside0.mk (blk_below (g := gb190) (o := .cells #[.int .u64 t183, .int .u32 t184, .int .u32 t185, .int .u32 t186, .string t187, .bool t188] 31 (0, 0)) (by (with_reducible repeat (first | refine blk_drewN ?_ _ | refine blk_drew ?_ | refine blk_alloc ?_ _)); exact BK190.out) hb); have n7_ := Aside0.mk (below_step (by repeat (first | (with_reducible first | exact HB.out | apply below_alloc | apply pw_below_drewN | apply below_drew1 | refine below_set ?_ GE175.out | refine below_set ?_ GE176.out | refine below_set ?_ GE181.out | refine below_set ?_ GE182.out | refine below_set ?_ GE190.out) | exact HB.out)) hb); clear HO180; clear HO193; clear BK175; clear BK176; clear BK181; clear BK182; clear BK190; clear HB; have HO180 := n0_; have HO193 := n1_; have BK175 := n2_; have BK176 := n3_; have BK181 := n4_; have BK182 := n5_; have BK190 := n6_; have HB := n7_; clear n0_ n1_ n2_ n3_ n4_ n5_ n6_ n7_; (try clear hb); (try clear hb2); (try clear hk); (try clear hi)) | ((with_reducible refine gate_dst (N := 14) rfl ?_); (try (refine gate_guard (by rfl) ?_; dsimp only)); refine box_event ?hg (N := 14) ?hd (cs := #[.int .u64 0, .int .u32 0, .int .u32 0, .int .u32 0, .string (⟨#[]⟩ : ByteArray), .bool false]) (t := 31) ?hr ?_; (case hd => rfl); (case hg => rfl); (case hr => first | (go_simp; done) | (go_simp; rfl)); intro gb202 hg w135 hbox hb; have n0_ := Aside0.mk (Kd.R_below (Kd.R_elderB (by (with_reducible repeat (first | apply Kd.R_alloc | apply Kd.R_drewN | apply Kd.R_drew)); exact HO180.out) gb202 (Nat.le_of_eq hg.symm)) hb); have n1_ := Aside0.mk (Kd.R_below (Kd.R_elderB (by (with_reducible repeat (first | apply Kd.R_alloc | apply Kd.R_drewN | apply Kd.R_drew)); exact HO193.out) gb202 (Nat.le_of_eq hg.symm)) hb); have n2_ := Aside0.mk (blk_below (g := gb175) (o := .cells #[.int .u64 a1_0, .int .u32 a1_1, .int .u32 a1_2, .int .u32 a1_3, .string a1_4, .bool a1_5] 31 (0, 0)) (by (with_reducible repeat (first | refine blk_drewN ?_ _ | refine blk_drew ?_ | refine blk_alloc ?_ _)); exact BK175.out) hb); have n3_ := Aside0.mk (blk_below (g := gb176) (o := .cells #[.int .u64 a2_0, .int .u32 a2_1, .int .u64 a2_2, .int .u32 a2_3] 35 (0, 0)) (by (with_reducible repeat (first | refine blk_drewN ?_ _ | refine blk_drew ?_ | refine blk_alloc ?_ _)); exact BK176.out) hb); have n4_ := Aside0.mk (blk_below (g := gb181) (o := .cells #[.int .u64 a2_0, .int .u32 a2_1] 27 (0, 0)) (by (with_reducible repeat (first | refine blk_drewN ?_ _ | refine blk_drew ?_ | refine blk_alloc ?_ _)); exact BK181.out) hb); have n5_ := Aside0.mk (blk_below (g := gb182) (o := .cells #[.int .u64 a2_2, .int .u32 a2_3] 27 (0, 0)) (by (with_reducible repeat (first | refine blk_drewN ?_ _ | refine blk_drew ?_ | refine blk_alloc ?_ _)); exact BK182.out) hb); have n6_ := Aside0.mk (blk_below (g := gb190) (o := .cells #[.int .u64 t183, .int .u32 t184, .int .u32 t185, .int .u32 t186, .string t187, .bool t188] 31 (0, 0)) (by (with_reducible repeat (first | refine blk_drewN ?_ _ | refine blk_drew ?_ | refine blk_alloc ?_ _)); exact BK190.out) hb); have n7_ := Aside0.mk (below_step (by repeat (first | (with_reducible first | exact HB.out | apply below_alloc | apply pw_below_drewN | apply below_drew1 | refine below_set ?_ GE175.out | refine below_set ?_ GE176.out | refine below_set ?_ GE181.out | refine below_set ?_ GE182.out | refine below_set ?_ GE190.out) | exact HB.out)) hb); have n8_ := Aside0.mk (hbox); have n9_ := Aside0.mk ((by rw [hg]; exact (below_size (by repeat (first | (with_reducible first | exact HB.out | apply below_alloc | apply pw_below_drewN | apply below_drew1 | refine below_set ?_ GE175.out | refine below_set ?_ GE176.out | refine below_set ?_ GE181.out | refine below_set ?_ GE182.out | refine below_set ?_ GE190.out) | exact HB.out))) : w.heap.size ≤ gb202)); have n10_ := Aside0.mk ((by rw [hg]; exact (below_size (by repeat (first | (with_reducible first | exact HB.out | apply below_alloc | apply pw_below_drewN | apply below_drew1 | refine below_set ?_ GE175.out | refine below_set ?_ GE176.out | refine below_set ?_ GE181.out | refine below_set ?_ GE182.out | refine below_set ?_ GE190.out) | exact HB.out))) : w.heap.size ≤ gb202)); have n11_ := Aside0.mk ((by rw [hg]; exact Nat.ne_of_lt (blk_lt (g := gb175) (o := .cells #[.int .u64 a1_0, .int .u32 a1_1, .int .u32 a1_2, .int .u32 a1_3, .string a1_4, .bool a1_5] 31 (0, 0)) (by (with_reducible repeat (first | refine blk_drewN ?_ _ | refine blk_drew ?_ | refine blk_alloc ?_ _)); exact BK175.out)) : gb175 ≠ gb202)); have n12_ := Aside0.mk ((by rw [hg]; exact Nat.ne_of_gt (blk_lt (g := gb175) (o := .cells #[.int .u64 a1_0, .int .u32 a1_1, .int .u32 a1_2, .int .u32 a1_3, .string a1_4, .bool a1_5] 31 (0, 0)) (by (with_reducible repeat (first | refine blk_drewN ?_ _ | refine blk_drew ?_ | refine blk_alloc ?_ _)); exact BK175.out)) : gb202 ≠ gb175)); have n13_ := Aside0.mk ((by rw [hg]; exact Nat.ne_of_lt (blk_lt (g := gb176) (o := .cells #[.int .u64 a2_0, .int .u32 a2_1, .int .u64 a2_2, .int .u32 a2_3] 35 (0, 0)) (by (with_reducible repeat (first | refine blk_drewN ?_ _ | refine blk_drew ?_ | refine blk_alloc ?_ _)); exact BK176.out)) : gb176 ≠ gb202)); have n14_ := Aside0.mk ((by rw [hg]; exact Nat.ne_of_gt (blk_lt (g := gb176) (o := .cells #[.int .u64 a2_0, .int .u32 a2_1, .int .u64 a2_2, .int .u32 a2_3] 35 (0, 0)) (by (with_reducible repeat (first | refine blk_drewN ?_ _ | refine blk_drew ?_ | refine blk_alloc ?_ _)); exact BK176.out)) : gb202 ≠ gb176)); have n15_ := Aside0.mk ((by rw [hg]; exact Nat.ne_of_lt (blk_lt (g := gb181) (o := .cells #[.int .u64 a2_0, .int .u32 a2_1] 27 (0, 0)) (by (with_reducible repeat (first | refine blk_drewN ?_ _ | refine blk_drew ?_ | refine blk_alloc ?_ _)); exact BK181.out)) : gb181 ≠ gb202)); have n16_ := Aside0.mk ((by rw [hg]; exact Nat.ne_of_gt (blk_lt (g := gb181) (o := .cells #[.int .u64 a2_0, .int .u32 a2_1] 27 (0, 0)) (by (with_reducible repeat (first | refine blk_drewN ?_ _ | refine blk_drew ?_ | refine blk_alloc ?_ _)); exact BK181.out)) : gb202 ≠ gb181)); have n17_ := Aside0.mk ((by rw [hg]; exact Nat.ne_of_lt (blk_lt (g := gb182) (o := .cells #[.int .u64 a2_2, .int .u32 a2_3] 27 (0, 0)) (by (with_reducible repeat (first | refine blk_drewN ?_ _ | refine blk_drew ?_ | refine blk_alloc ?_ _)); exact BK182.out)) : gb182 ≠ gb202)); have n18_ := Aside0.mk ((by rw [hg]; exact Nat.ne_of_gt (blk_lt (g := gb182) (o := .cells #[.int .u64 a2_2, .int .u32 a2_3] 27 (0, 0)) (by (with_reducible repeat (first | refine blk_drewN ?_ _ | refine blk_drew ?_ | refine blk_alloc ?_ _)); exact BK182.out)) : gb202 ≠ gb182)); have n19_ := Aside0.mk ((by rw [hg]; exact Nat.ne_of_lt (blk_lt (g := gb190) (o := .cells #[.int .u64 t183, .int .u32 t184, .int .u32 t185, .int .u32 t186, .string t187, .bool t188] 31 (0, 0)) (by (with_reducible repeat (first | refine blk_drewN ?_ _ | refine blk_drew ?_ | refine blk_alloc ?_ _)); exact BK190.out)) : gb190 ≠ gb202)); have n20_ := Aside0.mk ((by rw [hg]; exact Nat.ne_of_gt (blk_lt (g := gb190) (o := .cells #[.int .u64 t183, .int .u32 t184, .int .u32 t185, .int .u32 t186, .string t187, .bool t188] 31 (0, 0)) (by (with_reducible repeat (first | refine blk_drewN ?_ _ | refine blk_drew ?_ | refine blk_alloc ?_ _)); exact BK190.out)) : gb202 ≠ gb190)); clear HO180; clear HO193; clear BK175; clear BK176; clear BK181; clear BK182; clear BK190; clear HB; have HO180 := n0_; have HO193 := n1_; have BK175 := n2_; have BK176 := n3_; have BK181 := n4_; have BK182 := n5_; have BK190 := n6_; have HB := n7_; have BK202 := n8_; have GW202 := n9_; have GE202 := n10_; have NB175_202 := n11_; have NB202_175 := n12_; have NB176_202 := n13_; have NB202_176 := n14_; have NB181_202 := n15_; have NB202_181 := n16_; have NB182_202 := n17_; have NB202_182 := n18_; have NB190_202 := n19_; have NB202_190 := n20_; clear n0_ n1_ n2_ n3_ n4_ n5_ n6_ n7_ n8_ n9_ n10_ n11_ n12_ n13_ n14_ n15_ n16_ n17_ n18_ n19_ n20_; clear hb hbox hg; have hnb136 := NB202_175.out; have hnc136 := NB175_202.out; have hnb137 := NB202_176.out; have hnc137 := NB176_202.out; have hnb138 := NB202_181.out; have hnc138 := NB181_202.out; have hnb139 := NB202_182.out; have hnc139 := NB182_202.out; have hnb140 := NB202_190.out; have hnc140 := NB190_202.out; have hcz141_0 : w135.cell? ⟨gb202, 0, none⟩ = some (.int .u64 0) := (blk_cell BK202.out 0).trans rfl; have hcz141_1 : w135.cell? ⟨gb202, 1, none⟩ = some (.int .u32 0) := (blk_cell BK202.out 1).trans rfl; have hcz141_2 : w135.cell? ⟨gb202, 2, none⟩ = some (.int .u32 0) := (blk_cell BK202.out 2).trans rfl; have hcz141_3 : w135.cell? ⟨gb202, 3, none⟩ = some (.int .u32 0) := (blk_cell BK202.out 3).trans rfl; have hcz141_4 : w135.cell? ⟨gb202, 4, none⟩ = some (.string (⟨#[]⟩ : ByteArray)) := (blk_cell BK202.out 4).trans rfl; have hcz141_5 : w135.cell? ⟨gb202, 5, none⟩ = some (.bool false) := (blk_cell BK202.out 5).trans rfl; have hfz141_0 := blk_frozen BK202.out 0; have hfz141_1 := blk_frozen BK202.out 1; have hfz141_2 := blk_frozen BK202.out 2; have hfz141_3 := blk_frozen BK202.out 3; have hfz141_4 := blk_frozen BK202.out 4; have hfz141_5 := blk_frozen BK202.out 5; have hnb142 := NB175_176.out; have hnc142 := NB176_175.out; have hnb143 := NB175_182.out; have hnc143 := NB182_175.out; have hnb144 := NB175_190.out; have hnc144 := NB190_175.out; have hcz145_0 : w135.cell? ⟨gb175, 0, none⟩ = some (.int .u64 a1_0) := (blk_cell BK175.out 0).trans rfl; have hcz145_1 : w135.cell? ⟨gb175, 1, none⟩ = some (.int .u32 a1_1) := (blk_cell BK175.out 1).trans rfl; have hcz145_2 : w135.cell? ⟨gb175, 2, none⟩ = some (.int .u32 a1_2) := (blk_cell BK175.out 2).trans rfl; have hcz145_3 : w135.cell? ⟨gb175, 3, none⟩ = some (.int .u32 a1_3) := (blk_cell BK175.out 3).trans rfl; have hcz145_4 : w135.cell? ⟨gb175, 4, none⟩ = some (.string a1_4) := (blk_cell BK175.out 4).trans rfl; have hcz145_5 : w135.cell? ⟨gb175, 5, none⟩ = some (.bool a1_5) := (blk_cell BK175.out 5).trans rfl; have hfz145_0 := blk_frozen BK175.out 0; have hfz145_1 := blk_frozen BK175.out 1; have hfz145_2 := blk_frozen BK175.out 2; have hfz145_3 := blk_frozen BK175.out 3; have hfz145_4 := blk_frozen BK175.out 4; have hfz145_5 := blk_frozen BK175.out 5))
                go_meet
                case rel => exact ⟨_, H', ⟨by first | omega | exact Nat.le_refl _⟩, ⟨by (with_reducible repeat (first | apply Kd.R_alloc | apply Kd.R_drewN | apply Kd.R_drew)); exact Kd.R_mono (Kd.R_far (p := ⟨gb202, 5, none⟩) (Kd.R_far (p := ⟨gb202, 4, none⟩) (Kd.R_far (p := ⟨gb202, 3, none⟩) (Kd.R_far (p := ⟨gb202, 2, none⟩) (Kd.R_far (p := ⟨gb202, 1, none⟩) (Kd.R_far (p := ⟨gb202, 0, none⟩) (Kd.R_mono HO180.out (fun k_ hk => (⟨hk, hk.2⟩ : _ ∧ k_ ≠ gb202))) (fun _ hk => hk.2) (.int .u64 t195)) (fun _ hk => hk.2) (.int .u32 t196)) (fun _ hk => hk.2) (.int .u32 t197)) (fun _ hk => hk.2) (.int .u32 t198)) (fun _ hk => hk.2) (.string t199)) (fun _ hk => hk.2) (.bool t200)) (fun _ hk => ⟨hk.1.1.1.1, hk.1.1.1.2⟩)⟩, ⟨by (with_reducible repeat (first | refine blk_drewN ?_ _ | refine blk_drew ?_ | refine blk_alloc ?_ _)); refine blk_far ?_ NB175_202.out _; (with_reducible repeat (first | refine blk_drewN ?_ _ | refine blk_drew ?_ | refine blk_alloc ?_ _)); refine blk_far ?_ NB175_202.out _; (with_reducible repeat (first | refine blk_drewN ?_ _ | refine blk_drew ?_ | refine blk_alloc ?_ _)); refine blk_far ?_ NB175_202.out _; (with_reducible repeat (first | refine blk_drewN ?_ _ | refine blk_drew ?_ | refine blk_alloc ?_ _)); refine blk_far ?_ NB175_202.out _; (with_reducible repeat (first | refine blk_drewN ?_ _ | refine blk_drew ?_ | refine blk_alloc ?_ _)); refine blk_far ?_ NB175_202.out _; (with_reducible repeat (first | refine blk_drewN ?_ _ | refine blk_drew ?_ | refine blk_alloc ?_ _)); refine blk_far ?_ NB175_202.out _; (with_reducible repeat (first | refine blk_drewN ?_ _ | refine blk_drew ?_ | refine blk_alloc ?_ _)); exact BK175.out⟩, ⟨by (with_reducible repeat (first | refine blk_drewN ?_ _ | refine blk_drew ?_ | refine blk_alloc ?_ _)); refine blk_far ?_ NB176_202.out _; (with_reducible repeat (first | refine blk_drewN ?_ _ | refine blk_drew ?_ | refine blk_alloc ?_ _)); refine blk_far ?_ NB176_202.out _; (with_reducible repeat (first | refine blk_drewN ?_ _ | refine blk_drew ?_ | refine blk_alloc ?_ _)); refine blk_far ?_ NB176_202.out _; (with_reducible repeat (first | refine blk_drewN ?_ _ | refine blk_drew ?_ | refine blk_alloc ?_ _)); refine blk_far ?_ NB176_202.out _; (with_reducible repeat (first | refine blk_drewN ?_ _ | refine blk_drew ?_ | refine blk_alloc ?_ _)); refine blk_far ?_ NB176_202.out _; (with_reducible repeat (first | refine blk_drewN ?_ _ | refine blk_drew ?_ | refine blk_alloc ?_ _)); refine blk_far ?_ NB176_202.out _; (with_reducible repeat (first | refine blk_drewN ?_ _ | refine blk_drew ?_ | refine blk_alloc ?_ _)); exact BK176.out⟩, ⟨by (with_reducible repeat (first | refine blk_drewN ?_ _ | refine blk_drew ?_ | refine blk_alloc ?_ _)); refine blk_far ?_ NB181_202.out _; (with_reducible repeat (first | refine blk_drewN ?_ _ | refine blk_drew ?_ | refine blk_alloc ?_ _)); refine blk_far ?_ NB181_202.out _; (with_reducible repeat (first | refine blk_drewN ?_ _ | refine blk_drew ?_ | refine blk_alloc ?_ _)); refine blk_far ?_ NB181_202.out _; (with_reducible repeat (first | refine blk_drewN ?_ _ | refine blk_drew ?_ | refine blk_alloc ?_ _)); refine blk_far ?_ NB181_202.out _; (with_reducible repeat (first | refine blk_drewN ?_ _ | refine blk_drew ?_ | refine blk_alloc ?_ _)); refine blk_far ?_ NB181_202.out _; (with_reducible repeat (first | refine blk_drewN ?_ _ | refine blk_drew ?_ | refine blk_alloc ?_ _)); refine blk_far ?_ NB181_202.out _; (with_reducible repeat (first | refine blk_drewN ?_ _ | refine blk_drew ?_ | refine blk_alloc ?_ _)); exact BK181.out⟩, ⟨by (with_reducible repeat (first | refine blk_drewN ?_ _ | refine blk_drew ?_ | refine blk_alloc ?_ _)); refine blk_far ?_ NB182_202.out _; (with_reducible repeat (first | refine blk_drewN ?_ _ | refine blk_drew ?_ | refine blk_alloc ?_ _)); refine blk_far ?_ NB182_202.out _; (with_reducible repeat (first | refine blk_drewN ?_ _ | refine blk_drew ?_ | refine blk_alloc ?_ _)); refine blk_far ?_ NB182_202.out _; (with_reducible repeat (first | refine blk_drewN ?_ _ | refine blk_drew ?_ | refine blk_alloc ?_ _)); refine blk_far ?_ NB182_202.out _; (with_reducible repeat (first | refine blk_drewN ?_ _ | refine blk_drew ?_ | refine blk_alloc ?_ _)); refine blk_far ?_ NB182_202.out _; (with_reducible repeat (first | refine blk_drewN ?_ _ | refine blk_drew ?_ | refine blk_alloc ?_ _)); refine blk_far ?_ NB182_202.out _; (with_reducible repeat (first | refine blk_drewN ?_ _ | refine blk_drew ?_ | refine blk_alloc ?_ _)); exact BK182.out⟩, ⟨by (with_reducible repeat (first | refine blk_drewN ?_ _ | refine blk_drew ?_ | refine blk_alloc ?_ _)); refine blk_far ?_ NB190_202.out _; (with_reducible repeat (first | refine blk_drewN ?_ _ | refine blk_drew ?_ | refine blk_alloc ?_ _)); refine blk_far ?_ NB190_202.out _; (with_reducible repeat (first | refine blk_drewN ?_ _ | refine blk_drew ?_ | refine blk_alloc ?_ _)); refine blk_far ?_ NB190_202.out _; (with_reducible repeat (first | refine blk_drewN ?_ _ | refine blk_drew ?_ | refine blk_alloc ?_ _)); refine blk_far ?_ NB190_202.out _; (with_reducible repeat (first | refine blk_drewN ?_ _ | refine blk_drew ?_ | refine blk_alloc ?_ _)); refine blk_far ?_ NB190_202.out _; (with_reducible repeat (first | refine blk_drewN ?_ _ | refine blk_drew ?_ | refine blk_alloc ?_ _)); refine blk_far ?_ NB190_202.out _; (with_reducible repeat (first | refine blk_drewN ?_ _ | refine blk_drew ?_ | refine blk_alloc ?_ _)); exact BK190.out⟩, ⟨by repeat (first | (with_reducible first | exact HB.out | apply below_alloc | apply pw_below_drewN | apply below_drew1 | refine below_set ?_ GE175.out | refine below_set ?_ GE176.out | refine below_set ?_ GE181.out | refine below_set ?_ GE182.out | refine below_set ?_ GE190.out | refine below_set ?_ GE202.out) | exact HB.out)⟩⟩
              · rw [if_neg c127] at H
                exact absurd ((Option.some.inj H).trans hrt.out) (by decide)
            · replace c126 := Bool.eq_false_iff.mpr c126
              subst c126
              have H1 : (some false) = some r := by rw [if_neg (show ¬ (false = true) by decide)] at H; exact H
              exact absurd ((Option.some.inj H1).trans hrt.out) (by decide)
        · rw [if_neg c42] at H
          have c42b0 : (t194 == 0) = false := beq_eq_false_iff_ne.mpr c42
          have c42b1 : (t194 != 0) = true := bne_iff_ne.mpr c42
          (first | rw [c42b0] | (simp only [i64_w, i32_w]; rw [c42b0]) | skip)
          have H' := Aside0.mk H
          clear H
          go_wp2
          go_meet
          case rel => exact ⟨_, H', ⟨by first | omega | exact Nat.le_refl _⟩, ⟨by (with_reducible repeat (first | apply Kd.R_alloc | apply Kd.R_drewN | apply Kd.R_drew)); exact Kd.R_mono HO180.out (fun _ hk => ⟨hk.1.1, hk.1.2⟩)⟩, ⟨by (with_reducible repeat (first | refine blk_drewN ?_ _ | refine blk_drew ?_ | refine blk_alloc ?_ _)); exact BK175.out⟩, ⟨by (with_reducible repeat (first | refine blk_drewN ?_ _ | refine blk_drew ?_ | refine blk_alloc ?_ _)); exact BK176.out⟩, ⟨by (with_reducible repeat (first | refine blk_drewN ?_ _ | refine blk_drew ?_ | refine blk_alloc ?_ _)); exact BK181.out⟩, ⟨by (with_reducible repeat (first | refine blk_drewN ?_ _ | refine blk_drew ?_ | refine blk_alloc ?_ _)); exact BK182.out⟩, ⟨by (with_reducible repeat (first | refine blk_drewN ?_ _ | refine blk_drew ?_ | refine blk_alloc ?_ _)); exact BK190.out⟩, ⟨by repeat (first | (with_reducible first | exact HB.out | apply below_alloc | apply pw_below_drewN | apply below_drew1 | refine below_set ?_ GE175.out | refine below_set ?_ GE176.out | refine below_set ?_ GE181.out | refine below_set ?_ GE182.out | refine below_set ?_ GE190.out) | exact HB.out)⟩⟩
      case rest =>
        clear HC13
        try clear c1
        try clear c2
        try clear p2
        try clear c3
        try clear c4
        try clear c5
        try clear c6
        try clear c6b0
        try clear c6b1
        try clear c7
        try clear c8
        try clear c9
        try clear c10
        try clear c11
        try clear c12
        try clear c13
        try clear c14
        try clear c15
        try clear c16
        try clear c17
        try clear c26
        try clear c27
        try clear c28
        try clear c33
        try clear c34
        try clear c35
        try clear c36
        try clear c38
        try clear c39
        try clear c42
        try clear c42b0
        try clear c42b1
        try clear c44
        try clear c44b0
        try clear c44b1
        try clear c44b2
        try clear c45
        try clear c45b0
        try clear c46
        try clear c47
        try clear c48
        try clear c49
        try clear c54
        try clear c55
        try clear c56
        try clear c57
        try clear c58
        try clear c60
        try clear c61
        try clear c62
        try clear c64
        try clear c65
        try clear c65b0
        try clear c66
        try clear c67
        try clear c68
        try clear c69
        try clear c74
        try clear c75
        try clear c76
        try clear c77
        try clear c78
        try clear c80
        try clear c81
        try clear c82
        try clear c84
        try clear c85
        try clear c87
        try clear c88
        try clear c89
        try clear c90
        try clear c95
        try clear c96
        try clear c97
        try clear c98
        try clear c99
        try clear c101
        try clear c102
        try clear c103
        try clear c105
        try clear c106
        try clear c108
        try clear c109
        try clear c110
        try clear c111
        try clear c116
        try clear c117
        try clear c118
        try clear c119
        try clear c120
        try clear c122
        try clear c123
        try clear c124
        try clear c126
        try clear c127
        try clear c127b0
        try clear c128
        try clear c129
        try clear c130
        try clear c131
        try clear c136
        try clear c137
        try clear c138
        try clear c139
        try clear c140
        try clear c142
        try clear c143
        try clear c144
        try clear c146
        try clear c147
        try clear c148
        try clear c149
        try clear c154
        try clear c155
        try clear c156
        try clear c157
        try clear c158
        try clear c160
        try clear c161
        try clear c162
        try clear c164
        try clear c165
        try clear c166
        try clear c167
        try clear c172
        try clear c173
        try clear c174
        try clear c175
        try clear c176
        try clear hcz100_0
        try clear hcz100_1
        try clear hcz100_2
        try clear hcz100_3
        try clear hcz100_4
        try clear hcz100_5
        try clear hcz104_0
        try clear hcz104_1
        try clear hcz104_2
        try clear hcz104_3
        try clear hcz104_4
        try clear hcz104_5
        try clear hcz107_0
        try clear hcz107_1
        try clear hcz107_2
        try clear hcz107_3
        try clear hcz107_4
        try clear hcz107_5
        try clear hcz112_0
        try clear hcz112_1
        try clear hcz121_0
        try clear hcz121_1
        try clear hcz121_2
        try clear hcz121_3
        try clear hcz121_4
        try clear hcz121_5
        try clear hcz125_0
        try clear hcz125_1
        try clear hcz125_2
        try clear hcz125_3
        try clear hcz125_4
        try clear hcz125_5
        try clear hcz132_0
        try clear hcz132_1
        try clear hcz141_0
        try clear hcz141_1
        try clear hcz141_2
        try clear hcz141_3
        try clear hcz141_4
        try clear hcz141_5
        try clear hcz145_0
        try clear hcz145_1
        try clear hcz145_2
        try clear hcz145_3
        try clear hcz145_4
        try clear hcz145_5
        try clear hcz150_0
        try clear hcz150_1
        try clear hcz159_0
        try clear hcz159_1
        try clear hcz159_2
        try clear hcz159_3
        try clear hcz159_4
        try clear hcz159_5
        try clear hcz163_0
        try clear hcz163_1
        try clear hcz163_2
        try clear hcz163_3
        try clear hcz163_4
        try clear hcz163_5
        try clear hcz168_0
        try clear hcz168_1
        try clear hcz177_0
        try clear hcz177_1
        try clear hcz177_2
        try clear hcz177_3
        try clear hcz177_4
        try clear hcz177_5
        try clear hcz29_0
        try clear hcz29_1
        try clear hcz37_0
        try clear hcz37_1
        try clear hcz37_2
        try clear hcz37_3
        try clear hcz37_4
        try clear hcz37_5
        try clear hcz40_0
        try clear hcz40_1
        try clear hcz40_2
        try clear hcz40_3
        try clear hcz40_4
        try clear hcz40_5
        try clear hcz50_0
        try clear hcz50_1
        try clear hcz59_0
        try clear hcz59_1
        try clear hcz59_2
        try clear hcz59_3
        try clear hcz59_4
        try clear hcz59_5
        try clear hcz63_0
        try clear hcz63_1
        try clear hcz63_2
        try clear hcz63_3
        try clear hcz63_4
        try clear hcz63_5
        try clear hcz70_0
        try clear hcz70_1
        try clear hcz79_0
        try clear hcz79_1
        try clear hcz79_2
        try clear hcz79_3
        try clear hcz79_4
        try clear hcz79_5
        try clear hcz83_0
        try clear hcz83_1
        try clear hcz83_2
        try clear hcz83_3
        try clear hcz83_4
        try clear hcz83_5
        try clear hcz86_0
        try clear hcz86_1
        try clear hcz86_2
        try clear hcz86_3
        try clear hcz86_4
        try clear hcz86_5
        try clear hcz91_0
        try clear hcz91_1
        try clear hfz100_0
        try clear hfz100_1
        try clear hfz100_2
        try clear hfz100_3
        try clear hfz100_4
        try clear hfz100_5
        try clear hfz104_0
        try clear hfz104_1
        try clear hfz104_2
        try clear hfz104_3
        try clear hfz104_4
        try clear hfz104_5
        try clear hfz107_0
        try clear hfz107_1
        try clear hfz107_2
        try clear hfz107_3
        try clear hfz107_4
        try clear hfz107_5
        try clear hfz112_0
        try clear hfz112_1
        try clear hfz121_0
        try clear hfz121_1
        try clear hfz121_2
        try clear hfz121_3
        try clear hfz121_4
        try clear hfz121_5
        try clear hfz125_0
        try clear hfz125_1
        try clear hfz125_2
        try clear hfz125_3
        try clear hfz125_4
        try clear hfz125_5
        try clear hfz132_0
        try clear hfz132_1
        try clear hfz141_0
        try clear hfz141_1
        try clear hfz141_2
        try clear hfz141_3
        try clear hfz141_4
        try clear hfz141_5
        try clear hfz145_0
        try clear hfz145_1
        try clear hfz145_2
        try clear hfz145_3
        try clear hfz145_4
        try clear hfz145_5
        try clear hfz150_0
        try clear hfz150_1
        try clear hfz159_0
        try clear hfz159_1
        try clear hfz159_2
        try clear hfz159_3
        try clear hfz159_4
        try clear hfz159_5
        try clear hfz163_0
        try clear hfz163_1
        try clear hfz163_2
        try clear hfz163_3
        try clear hfz163_4
        try clear hfz163_5
        try clear hfz168_0
        try clear hfz168_1
        try clear hfz177_0
        try clear hfz177_1
        try clear hfz177_2
        try clear hfz177_3
        try clear hfz177_4
        try clear hfz177_5
        try clear hfz29_0
        try clear hfz29_1
        try clear hfz37_0
        try clear hfz37_1
        try clear hfz37_2
        try clear hfz37_3
        try clear hfz37_4
        try clear hfz37_5
        try clear hfz40_0
        try clear hfz40_1
        try clear hfz40_2
        try clear hfz40_3
        try clear hfz40_4
        try clear hfz40_5
        try clear hfz50_0
        try clear hfz50_1
        try clear hfz59_0
        try clear hfz59_1
        try clear hfz59_2
        try clear hfz59_3
        try clear hfz59_4
        try clear hfz59_5
        try clear hfz63_0
        try clear hfz63_1
        try clear hfz63_2
        try clear hfz63_3
        try clear hfz63_4
        try clear hfz63_5
        try clear hfz70_0
        try clear hfz70_1
        try clear hfz79_0
        try clear hfz79_1
        try clear hfz79_2
        try clear hfz79_3
        try clear hfz79_4
        try clear hfz79_5
        try clear hfz83_0
        try clear hfz83_1
        try clear hfz83_2
        try clear hfz83_3
        try clear hfz83_4
        try clear hfz83_5
        try clear hfz86_0
        try clear hfz86_1
        try clear hfz86_2
        try clear hfz86_3
        try clear hfz86_4
        try clear hfz86_5
        try clear hfz91_0
        try clear hfz91_1
        obtain ⟨kq, HA, HJ12, HO_7, BK175, BK176, BK181, BK182, BK190, HB⟩ := hcut
        cases kq with
        | zero => exact absurd HA.out (by simp [dovecotelaw07_ChainSees.j0])
        | succ kj12 =>
          have H := HA.out
          clear HA
          simp only [dovecotelaw07_ChainSees.j0] at H
          replace H := Option.bind_eq_some_iff.mp H
          obtain ⟨t203, A1780, H⟩ := H
          replace H : ((chain_Right.f kj12 t203).bind fun t206 => (if t206 = true then (dovecotelaw07_ChainSees.j1 kj12 t189 t203 (decide ((t203.length : Int) > (t178.length : Int))) a2_0 a2_1 a2_2 a2_3 t183 t184 t185 t186 t187 t188) else (dovecotelaw07_ChainSees.j1 kj12 t189 t203 true a2_0 a2_1 a2_2 a2_3 t183 t184 t185 t186 t187 t188))) = some r := H
          have A178 := Aside0.mk A1780
          clear A1780
          have HC179 := Aside0.mk H
          clear H
          have hnb180 := NB182_175.out
          have hnc180 := NB175_182.out
          have hnb181 := NB182_176.out
          have hnc181 := NB176_182.out
          have hnb182 := NB182_181.out
          have hnc182 := NB181_182.out
          have hnb183 := NB182_190.out
          have hnc183 := NB190_182.out
          have hcz184_0 : wc.cell? ⟨gb182, 0, none⟩ = some (.int .u64 a2_2) := (blk_cell BK182.out 0).trans rfl
          have hcz184_1 : wc.cell? ⟨gb182, 1, none⟩ = some (.int .u32 a2_3) := (blk_cell BK182.out 1).trans rfl
          have hfz184_0 := blk_frozen BK182.out 0
          have hfz184_1 := blk_frozen BK182.out 1
          go_upto_region 14 with (first | ((with_reducible refine gate_callee (f := 18) rfl ?_); refine goesL_ (some 72) rfl rfl Try.func18 (by kernel_rfl) rfl #[.slice Ao30 t178.length co30, .agg #[.int .u64 a2_2, .int .u32 a2_3]] rfl (by (try simp only [List.map_toArray, List.map_cons, List.map_nil]); first | done | rfl | (simp only [List.length_drop, List.length_take]; rfl)) ?_; (with_reducible refine (chain_Prune.calls kj12 _ _ t178 a2_2 a2_3 t203 _ ?side1 ?side2 A178.out).mono ?_); (case side1 => repeat (first | exact (Kd.R_reads' HO_7.out).2.2 | (with_reducible refine Kd.C_alloc ?_ _) | (with_reducible refine Kd.C_drewN ?_ _) | (with_reducible refine Kd.C_drew ?_))); (case side2 => exact (Kd.R_reads' HO_7.out).2.1); rintro e w185 ⟨v204, rfl, ho0, hb⟩; refine ⟨_, rfl, ?_⟩; have n0_ := Aside0.mk (Kd.R_elder' (by (with_reducible repeat (first | apply Kd.R_alloc | apply Kd.R_drewN | apply Kd.R_drew)); exact HO_7.out) (Kd.R_base ho0) hb); have n1_ := Aside0.mk (Kd.R_lower (Kd.R_newB (Kd.R_newB (Kd.R_new' ho0 (Kd.R_lt (by (with_reducible repeat (first | apply Kd.R_alloc | apply Kd.R_drewN | apply Kd.R_drew)); exact HO_7.out))) (g := gb175) (o := .cells #[.int .u64 a1_0, .int .u32 a1_1, .int .u32 a1_2, .int .u32 a1_3, .string a1_4, .bool a1_5] 31 (0, 0)) (by (with_reducible repeat (first | refine blk_drewN ?_ _ | refine blk_drew ?_ | refine blk_alloc ?_ _)); exact BK175.out)) (g := gb190) (o := .cells #[.int .u64 t183, .int .u32 t184, .int .u32 t185, .int .u32 t186, .string t187, .bool t188] 31 (0, 0)) (by (with_reducible repeat (first | refine blk_drewN ?_ _ | refine blk_drew ?_ | refine blk_alloc ?_ _)); exact BK190.out)) (below_size (by repeat (first | (with_reducible first | exact HB.out | apply below_alloc | apply pw_below_drewN | apply below_drew1 | refine below_set ?_ GE175.out | refine below_set ?_ GE176.out | refine below_set ?_ GE181.out | refine below_set ?_ GE182.out | refine below_set ?_ GE190.out) | exact HB.out)))); have n2_ := Aside0.mk (blk_below (g := gb175) (o := .cells #[.int .u64 a1_0, .int .u32 a1_1, .int .u32 a1_2, .int .u32 a1_3, .string a1_4, .bool a1_5] 31 (0, 0)) (by (with_reducible repeat (first | refine blk_drewN ?_ _ | refine blk_drew ?_ | refine blk_alloc ?_ _)); exact BK175.out) hb); have n3_ := Aside0.mk (blk_below (g := gb176) (o := .cells #[.int .u64 a2_0, .int .u32 a2_1, .int .u64 a2_2, .int .u32 a2_3] 35 (0, 0)) (by (with_reducible repeat (first | refine blk_drewN ?_ _ | refine blk_drew ?_ | refine blk_alloc ?_ _)); exact BK176.out) hb); have n4_ := Aside0.mk (blk_below (g := gb181) (o := .cells #[.int .u64 a2_0, .int .u32 a2_1] 27 (0, 0)) (by (with_reducible repeat (first | refine blk_drewN ?_ _ | refine blk_drew ?_ | refine blk_alloc ?_ _)); exact BK181.out) hb); have n5_ := Aside0.mk (blk_below (g := gb182) (o := .cells #[.int .u64 a2_2, .int .u32 a2_3] 27 (0, 0)) (by (with_reducible repeat (first | refine blk_drewN ?_ _ | refine blk_drew ?_ | refine blk_alloc ?_ _)); exact BK182.out) hb); have n6_ := Aside0.mk (blk_below (g := gb190) (o := .cells #[.int .u64 t183, .int .u32 t184, .int .u32 t185, .int .u32 t186, .string t187, .bool t188] 31 (0, 0)) (by (with_reducible repeat (first | refine blk_drewN ?_ _ | refine blk_drew ?_ | refine blk_alloc ?_ _)); exact BK190.out) hb); have n7_ := Aside0.mk (below_step (by repeat (first | (with_reducible first | exact HB.out | apply below_alloc | apply pw_below_drewN | apply below_drew1 | refine below_set ?_ GE175.out | refine below_set ?_ GE176.out | refine below_set ?_ GE181.out | refine below_set ?_ GE182.out | refine below_set ?_ GE190.out) | exact HB.out)) hb); clear HO_7; clear BK175; clear BK176; clear BK181; clear BK182; clear BK190; clear HB; have HO_7 := n0_; have HO205 := n1_; have BK175 := n2_; have BK176 := n3_; have BK181 := n4_; have BK182 := n5_; have BK190 := n6_; have HB := n7_; clear n0_ n1_ n2_ n3_ n4_ n5_ n6_ n7_; (try clear hb); (try clear hb2); (try clear hk); (try clear hi); (try clear ho0)))
          (try simp only [Act.put, List.setIfInBounds_toArray, List.set_cons_zero, List.set_cons_succ])
          go_cut [82] (fun v82 wc => ∃ (kq : Nat) (x82_178 : Bool), v82 = .bool x82_178 ∧ Aside0 (dovecotelaw07_ChainSees.j1 kq t189 t203 x82_178 a2_0 a2_1 a2_2 a2_3 t183 t184 t185 t186 t187 t188 = some r) ∧ Aside0 (kq ≤ kj12) ∧ Aside0 (Kd.R k31 31 wc w.heap.size (fun k_ => k_ ≠ gb175 ∧ k_ ≠ gb190) v204 t203) ∧ Aside0 (wc.heap[gb175]? = some (.cells #[.int .u64 a1_0, .int .u32 a1_1, .int .u32 a1_2, .int .u32 a1_3, .string a1_4, .bool a1_5] 31 (0, 0))) ∧ Aside0 (wc.heap[gb176]? = some (.cells #[.int .u64 a2_0, .int .u32 a2_1, .int .u64 a2_2, .int .u32 a2_3] 35 (0, 0))) ∧ Aside0 (wc.heap[gb181]? = some (.cells #[.int .u64 a2_0, .int .u32 a2_1] 27 (0, 0))) ∧ Aside0 (wc.heap[gb182]? = some (.cells #[.int .u64 a2_2, .int .u32 a2_3] 27 (0, 0))) ∧ Aside0 (wc.heap[gb190]? = some (.cells #[.int .u64 t183, .int .u32 t184, .int .u32 t185, .int .u32 t186, .string t187, .bool t188] 31 (0, 0))) ∧ Aside0 (Below w.heap.size w wc))
          case first =>
            have H := HC179.out
            clear HC179
            replace H := Option.bind_eq_some_iff.mp H
            obtain ⟨t206, A1860, H⟩ := H
            replace H : (if t206 = true then (dovecotelaw07_ChainSees.j1 kj12 t189 t203 (decide ((t203.length : Int) > (t178.length : Int))) a2_0 a2_1 a2_2 a2_3 t183 t184 t185 t186 t187 t188) else (dovecotelaw07_ChainSees.j1 kj12 t189 t203 true a2_0 a2_1 a2_2 a2_3 t183 t184 t185 t186 t187 t188)) = some r := H
            have A186 := Aside0.mk A1860
            clear A1860
            by_cases c187 : t206 = true
            · subst c187
              have H1 : (dovecotelaw07_ChainSees.j1 kj12 t189 t203 (decide ((t203.length : Int) > (t178.length : Int))) a2_0 a2_1 a2_2 a2_3 t183 t184 t185 t186 t187 t188) = some r := by rw [if_pos rfl] at H; exact H
              clear H
              have H := H1
              clear H1
              have H' := Aside0.mk H
              clear H
              obtain ⟨Ao188, co188, eo188⟩ := Kd.R_slice HO205.out
              subst eo188
              go_wp2_with (first | ((with_reducible refine gate_callee (f := 19) rfl ?_); refine goesL_ (some 74) rfl rfl Try.func19 (by kernel_rfl) rfl #[.slice Ao188 t203.length co188] rfl (by (try simp only [List.map_toArray, List.map_cons, List.map_nil]); first | done | rfl | (simp only [List.length_drop, List.length_take]; rfl)) ?_; (with_reducible refine (chain_Right.calls kj12 _ _ t203 true _ ?side1 ?side2 A186.out).mono ?_); (case side1 => repeat (first | exact (Kd.R_reads' HO205.out).2.2 | (with_reducible refine Kd.C_alloc ?_ _) | (with_reducible refine Kd.C_drewN ?_ _) | (with_reducible refine Kd.C_drew ?_))); (case side2 => exact (Kd.R_reads' HO205.out).2.1); rintro e w189 ⟨rfl, hb⟩; refine ⟨_, rfl, ?_⟩; have n0_ := Aside0.mk (Kd.R_below (by (with_reducible repeat (first | apply Kd.R_alloc | apply Kd.R_drewN | apply Kd.R_drew)); exact HO_7.out) hb); have n1_ := Aside0.mk (Kd.R_below (by (with_reducible repeat (first | apply Kd.R_alloc | apply Kd.R_drewN | apply Kd.R_drew)); exact HO205.out) hb); have n2_ := Aside0.mk (blk_below (g := gb175) (o := .cells #[.int .u64 a1_0, .int .u32 a1_1, .int .u32 a1_2, .int .u32 a1_3, .string a1_4, .bool a1_5] 31 (0, 0)) (by (with_reducible repeat (first | refine blk_drewN ?_ _ | refine blk_drew ?_ | refine blk_alloc ?_ _)); exact BK175.out) hb); have n3_ := Aside0.mk (blk_below (g := gb176) (o := .cells #[.int .u64 a2_0, .int .u32 a2_1, .int .u64 a2_2, .int .u32 a2_3] 35 (0, 0)) (by (with_reducible repeat (first | refine blk_drewN ?_ _ | refine blk_drew ?_ | refine blk_alloc ?_ _)); exact BK176.out) hb); have n4_ := Aside0.mk (blk_below (g := gb181) (o := .cells #[.int .u64 a2_0, .int .u32 a2_1] 27 (0, 0)) (by (with_reducible repeat (first | refine blk_drewN ?_ _ | refine blk_drew ?_ | refine blk_alloc ?_ _)); exact BK181.out) hb); have n5_ := Aside0.mk (blk_below (g := gb182) (o := .cells #[.int .u64 a2_2, .int .u32 a2_3] 27 (0, 0)) (by (with_reducible repeat (first | refine blk_drewN ?_ _ | refine blk_drew ?_ | refine blk_alloc ?_ _)); exact BK182.out) hb); have n6_ := Aside0.mk (blk_below (g := gb190) (o := .cells #[.int .u64 t183, .int .u32 t184, .int .u32 t185, .int .u32 t186, .string t187, .bool t188] 31 (0, 0)) (by (with_reducible repeat (first | refine blk_drewN ?_ _ | refine blk_drew ?_ | refine blk_alloc ?_ _)); exact BK190.out) hb); have n7_ := Aside0.mk (below_step (by repeat (first | (with_reducible first | exact HB.out | apply below_alloc | apply pw_below_drewN | apply below_drew1 | refine below_set ?_ GE175.out | refine below_set ?_ GE176.out | refine below_set ?_ GE181.out | refine below_set ?_ GE182.out | refine below_set ?_ GE190.out) | exact HB.out)) hb); clear HO_7; clear HO205; clear BK175; clear BK176; clear BK181; clear BK182; clear BK190; clear HB; have HO_7 := n0_; have HO205 := n1_; have BK175 := n2_; have BK176 := n3_; have BK181 := n4_; have BK182 := n5_; have BK190 := n6_; have HB := n7_; clear n0_ n1_ n2_ n3_ n4_ n5_ n6_ n7_; (try clear hb); (try clear hb2); (try clear hk); (try clear hi)))
              go_meet
              case rel => exact ⟨_, (decide ((t203.length : Int) > (t178.length : Int))), (by first | rfl | (simp; done) | (simp [*]; done)), H', ⟨by have := HJ12.out; first | omega | exact Nat.le_refl _⟩, ⟨by (with_reducible repeat (first | apply Kd.R_alloc | apply Kd.R_drewN | apply Kd.R_drew)); exact Kd.R_mono HO205.out (fun _ hk => ⟨hk.1.2, hk.2⟩)⟩, ⟨by (with_reducible repeat (first | refine blk_drewN ?_ _ | refine blk_drew ?_ | refine blk_alloc ?_ _)); exact BK175.out⟩, ⟨by (with_reducible repeat (first | refine blk_drewN ?_ _ | refine blk_drew ?_ | refine blk_alloc ?_ _)); exact BK176.out⟩, ⟨by (with_reducible repeat (first | refine blk_drewN ?_ _ | refine blk_drew ?_ | refine blk_alloc ?_ _)); exact BK181.out⟩, ⟨by (with_reducible repeat (first | refine blk_drewN ?_ _ | refine blk_drew ?_ | refine blk_alloc ?_ _)); exact BK182.out⟩, ⟨by (with_reducible repeat (first | refine blk_drewN ?_ _ | refine blk_drew ?_ | refine blk_alloc ?_ _)); exact BK190.out⟩, ⟨by repeat (first | (with_reducible first | exact HB.out | apply below_alloc | apply pw_below_drewN | apply below_drew1 | refine below_set ?_ GE175.out | refine below_set ?_ GE176.out | refine below_set ?_ GE181.out | refine below_set ?_ GE182.out | refine below_set ?_ GE190.out) | exact HB.out)⟩⟩
            · replace c187 := Bool.eq_false_iff.mpr c187
              subst c187
              have H1 : (dovecotelaw07_ChainSees.j1 kj12 t189 t203 true a2_0 a2_1 a2_2 a2_3 t183 t184 t185 t186 t187 t188) = some r := by rw [if_neg (show ¬ (false = true) by decide)] at H; exact H
              exact (dovecotelaw07_ChainSees.j1.no H1 hrt.out).elim
          case rest =>
            clear HC179
            try clear c1
            try clear c2
            try clear p2
            try clear c3
            try clear c4
            try clear c5
            try clear c6
            try clear c6b0
            try clear c6b1
            try clear c7
            try clear c8
            try clear c9
            try clear c10
            try clear c11
            try clear c12
            try clear c13
            try clear c14
            try clear c15
            try clear c16
            try clear c17
            try clear c18
            try clear c19
            try clear c26
            try clear c27
            try clear c28
            try clear c33
            try clear c34
            try clear c35
            try clear c36
            try clear c38
            try clear c39
            try clear c42
            try clear c42b0
            try clear c42b1
            try clear c44
            try clear c44b0
            try clear c44b1
            try clear c44b2
            try clear c45
            try clear c45b0
            try clear c46
            try clear c47
            try clear c48
            try clear c49
            try clear c54
            try clear c55
            try clear c56
            try clear c57
            try clear c58
            try clear c60
            try clear c61
            try clear c62
            try clear c64
            try clear c65
            try clear c65b0
            try clear c66
            try clear c67
            try clear c68
            try clear c69
            try clear c74
            try clear c75
            try clear c76
            try clear c77
            try clear c78
            try clear c80
            try clear c81
            try clear c82
            try clear c84
            try clear c85
            try clear c87
            try clear c88
            try clear c89
            try clear c90
            try clear c95
            try clear c96
            try clear c97
            try clear c98
            try clear c99
            try clear c101
            try clear c102
            try clear c103
            try clear c105
            try clear c106
            try clear c108
            try clear c109
            try clear c110
            try clear c111
            try clear c116
            try clear c117
            try clear c118
            try clear c119
            try clear c120
            try clear c122
            try clear c123
            try clear c124
            try clear c126
            try clear c127
            try clear c127b0
            try clear c128
            try clear c129
            try clear c130
            try clear c131
            try clear c136
            try clear c137
            try clear c138
            try clear c139
            try clear c140
            try clear c142
            try clear c143
            try clear c144
            try clear c146
            try clear c147
            try clear c148
            try clear c149
            try clear c154
            try clear c155
            try clear c156
            try clear c157
            try clear c158
            try clear c160
            try clear c161
            try clear c162
            try clear c164
            try clear c165
            try clear c166
            try clear c167
            try clear c172
            try clear c173
            try clear c174
            try clear c175
            try clear c176
            try clear c180
            try clear c181
            try clear c182
            try clear c183
            try clear c187
            try clear hcz100_0
            try clear hcz100_1
            try clear hcz100_2
            try clear hcz100_3
            try clear hcz100_4
            try clear hcz100_5
            try clear hcz104_0
            try clear hcz104_1
            try clear hcz104_2
            try clear hcz104_3
            try clear hcz104_4
            try clear hcz104_5
            try clear hcz107_0
            try clear hcz107_1
            try clear hcz107_2
            try clear hcz107_3
            try clear hcz107_4
            try clear hcz107_5
            try clear hcz112_0
            try clear hcz112_1
            try clear hcz121_0
            try clear hcz121_1
            try clear hcz121_2
            try clear hcz121_3
            try clear hcz121_4
            try clear hcz121_5
            try clear hcz125_0
            try clear hcz125_1
            try clear hcz125_2
            try clear hcz125_3
            try clear hcz125_4
            try clear hcz125_5
            try clear hcz132_0
            try clear hcz132_1
            try clear hcz141_0
            try clear hcz141_1
            try clear hcz141_2
            try clear hcz141_3
            try clear hcz141_4
            try clear hcz141_5
            try clear hcz145_0
            try clear hcz145_1
            try clear hcz145_2
            try clear hcz145_3
            try clear hcz145_4
            try clear hcz145_5
            try clear hcz150_0
            try clear hcz150_1
            try clear hcz159_0
            try clear hcz159_1
            try clear hcz159_2
            try clear hcz159_3
            try clear hcz159_4
            try clear hcz159_5
            try clear hcz163_0
            try clear hcz163_1
            try clear hcz163_2
            try clear hcz163_3
            try clear hcz163_4
            try clear hcz163_5
            try clear hcz168_0
            try clear hcz168_1
            try clear hcz177_0
            try clear hcz177_1
            try clear hcz177_2
            try clear hcz177_3
            try clear hcz177_4
            try clear hcz177_5
            try clear hcz184_0
            try clear hcz184_1
            try clear hcz29_0
            try clear hcz29_1
            try clear hcz37_0
            try clear hcz37_1
            try clear hcz37_2
            try clear hcz37_3
            try clear hcz37_4
            try clear hcz37_5
            try clear hcz40_0
            try clear hcz40_1
            try clear hcz40_2
            try clear hcz40_3
            try clear hcz40_4
            try clear hcz40_5
            try clear hcz50_0
            try clear hcz50_1
            try clear hcz59_0
            try clear hcz59_1
            try clear hcz59_2
            try clear hcz59_3
            try clear hcz59_4
            try clear hcz59_5
            try clear hcz63_0
            try clear hcz63_1
            try clear hcz63_2
            try clear hcz63_3
            try clear hcz63_4
            try clear hcz63_5
            try clear hcz70_0
            try clear hcz70_1
            try clear hcz79_0
            try clear hcz79_1
            try clear hcz79_2
            try clear hcz79_3
            try clear hcz79_4
            try clear hcz79_5
            try clear hcz83_0
            try clear hcz83_1
            try clear hcz83_2
            try clear hcz83_3
            try clear hcz83_4
            try clear hcz83_5
            try clear hcz86_0
            try clear hcz86_1
            try clear hcz86_2
            try clear hcz86_3
            try clear hcz86_4
            try clear hcz86_5
            try clear hcz91_0
            try clear hcz91_1
            try clear hfz100_0
            try clear hfz100_1
            try clear hfz100_2
            try clear hfz100_3
            try clear hfz100_4
            try clear hfz100_5
            try clear hfz104_0
            try clear hfz104_1
            try clear hfz104_2
            try clear hfz104_3
            try clear hfz104_4
            try clear hfz104_5
            try clear hfz107_0
            try clear hfz107_1
            try clear hfz107_2
            try clear hfz107_3
            try clear hfz107_4
            try clear hfz107_5
            try clear hfz112_0
            try clear hfz112_1
            try clear hfz121_0
            try clear hfz121_1
            try clear hfz121_2
            try clear hfz121_3
            try clear hfz121_4
            try clear hfz121_5
            try clear hfz125_0
            try clear hfz125_1
            try clear hfz125_2
            try clear hfz125_3
            try clear hfz125_4
            try clear hfz125_5
            try clear hfz132_0
            try clear hfz132_1
            try clear hfz141_0
            try clear hfz141_1
            try clear hfz141_2
            try clear hfz141_3
            try clear hfz141_4
            try clear hfz141_5
            try clear hfz145_0
            try clear hfz145_1
            try clear hfz145_2
            try clear hfz145_3
            try clear hfz145_4
            try clear hfz145_5
            try clear hfz150_0
            try clear hfz150_1
            try clear hfz159_0
            try clear hfz159_1
            try clear hfz159_2
            try clear hfz159_3
            try clear hfz159_4
            try clear hfz159_5
            try clear hfz163_0
            try clear hfz163_1
            try clear hfz163_2
            try clear hfz163_3
            try clear hfz163_4
            try clear hfz163_5
            try clear hfz168_0
            try clear hfz168_1
            try clear hfz177_0
            try clear hfz177_1
            try clear hfz177_2
            try clear hfz177_3
            try clear hfz177_4
            try clear hfz177_5
            try clear hfz184_0
            try clear hfz184_1
            try clear hfz29_0
            try clear hfz29_1
            try clear hfz37_0
            try clear hfz37_1
            try clear hfz37_2
            try clear hfz37_3
            try clear hfz37_4
            try clear hfz37_5
            try clear hfz40_0
            try clear hfz40_1
            try clear hfz40_2
            try clear hfz40_3
            try clear hfz40_4
            try clear hfz40_5
            try clear hfz50_0
            try clear hfz50_1
            try clear hfz59_0
            try clear hfz59_1
            try clear hfz59_2
            try clear hfz59_3
            try clear hfz59_4
            try clear hfz59_5
            try clear hfz63_0
            try clear hfz63_1
            try clear hfz63_2
            try clear hfz63_3
            try clear hfz63_4
            try clear hfz63_5
            try clear hfz70_0
            try clear hfz70_1
            try clear hfz79_0
            try clear hfz79_1
            try clear hfz79_2
            try clear hfz79_3
            try clear hfz79_4
            try clear hfz79_5
            try clear hfz83_0
            try clear hfz83_1
            try clear hfz83_2
            try clear hfz83_3
            try clear hfz83_4
            try clear hfz83_5
            try clear hfz86_0
            try clear hfz86_1
            try clear hfz86_2
            try clear hfz86_3
            try clear hfz86_4
            try clear hfz86_5
            try clear hfz91_0
            try clear hfz91_1
            try clear p2
            obtain ⟨kq, x82_178, rfl, HA, HJ178, HO_16, BK175, BK176, BK181, BK182, BK190, HB⟩ := hcut
            cases kq with
            | zero => exact absurd HA.out (by simp [dovecotelaw07_ChainSees.j1])
            | succ kj178 =>
              have H := HA.out
              clear HA
              simp only [dovecotelaw07_ChainSees.j1] at H
              by_cases c192 : x82_178 = true
              · subst c192
                have H1 : (some false) = some r := by rw [if_pos rfl] at H; exact H
                exact absurd ((Option.some.inj H1).trans hrt.out) (by decide)
              · replace c192 := Bool.eq_false_iff.mpr c192
                subst c192
                have H1 : (if a2_0 > a2_2 then ((chain_At.f kj178 t203 a2_0 a2_1).bind fun bt207 => (if t189 = true then (if bt207.2.2.2.2.2.2 = true then (if ((!t188) == (!bt207.2.2.2.2.2.1)) = true then (if t188 = true then (some true) else (some ((t183 == bt207.1 && (t184 == bt207.2.1)) && ((t185 == bt207.2.2.1 && (t186 == bt207.2.2.2.1)) && (t187.toList == bt207.2.2.2.2.1.toList && (t188 == bt207.2.2.2.2.2.1)))))) else (some false)) else (if ((!t188) == false) = true then (if t188 = true then (some true) else (some ((t183 == bt207.1 && (t184 == bt207.2.1)) && ((t185 == bt207.2.2.1 && (t186 == bt207.2.2.2.1)) && (t187.toList == bt207.2.2.2.2.1.toList && (t188 == bt207.2.2.2.2.2.1)))))) else (some false))) else (if bt207.2.2.2.2.2.2 = true then (if (false == (!bt207.2.2.2.2.2.1)) = true then (some true) else (some false)) else (if (false == false) = true then (some true) else (some false))))) else (if a2_0 = a2_2 then (if a2_1 ≥ a2_3 then ((chain_At.f kj178 t203 a2_0 a2_1).bind fun bt215 => (if t189 = true then (if bt215.2.2.2.2.2.2 = true then (if ((!t188) == (!bt215.2.2.2.2.2.1)) = true then (if t188 = true then (some true) else (some ((t183 == bt215.1 && (t184 == bt215.2.1)) && ((t185 == bt215.2.2.1 && (t186 == bt215.2.2.2.1)) && (t187.toList == bt215.2.2.2.2.1.toList && (t188 == bt215.2.2.2.2.2.1)))))) else (some false)) else (if ((!t188) == false) = true then (if t188 = true then (some true) else (some ((t183 == bt215.1 && (t184 == bt215.2.1)) && ((t185 == bt215.2.2.1 && (t186 == bt215.2.2.2.1)) && (t187.toList == bt215.2.2.2.2.1.toList && (t188 == bt215.2.2.2.2.2.1)))))) else (some false))) else (if bt215.2.2.2.2.2.2 = true then (if (false == (!bt215.2.2.2.2.2.1)) = true then (some true) else (some false)) else (if (false == false) = true then (some true) else (some false))))) else (some true)) else (some true))) = some r := by rw [if_neg (show ¬ (false = true) by decide)] at H; exact H
                clear H
                have H := H1
                clear H1
                have hnb199 := NB181_175.out
                have hnc199 := NB175_181.out
                have hnb200 := NB181_176.out
                have hnc200 := NB176_181.out
                have hnb201 := NB181_182.out
                have hnc201 := NB182_181.out
                have hnb202 := NB181_190.out
                have hnc202 := NB190_181.out
                have hcz203_0 : wc.cell? ⟨gb181, 0, none⟩ = some (.int .u64 a2_0) := (blk_cell BK181.out 0).trans rfl
                have hcz203_1 : wc.cell? ⟨gb181, 1, none⟩ = some (.int .u32 a2_1) := (blk_cell BK181.out 1).trans rfl
                have hfz203_0 := blk_frozen BK181.out 0
                have hfz203_1 := blk_frozen BK181.out 1
                have hnb204 := NB182_175.out
                have hnc204 := NB175_182.out
                have hnb205 := NB182_176.out
                have hnc205 := NB176_182.out
                have hnb206 := NB182_190.out
                have hnc206 := NB190_182.out
                have hcz207_0 : wc.cell? ⟨gb182, 0, none⟩ = some (.int .u64 a2_2) := (blk_cell BK182.out 0).trans rfl
                have hcz207_1 : wc.cell? ⟨gb182, 1, none⟩ = some (.int .u32 a2_3) := (blk_cell BK182.out 1).trans rfl
                have hfz207_0 := blk_frozen BK182.out 0
                have hfz207_1 := blk_frozen BK182.out 1
                by_cases c196 : a2_0 > a2_2
                · rw [if_pos c196] at H
                  have c196b0 : decide (a2_2 < a2_0) = true := decide_eq_true c196
                  clear c196
                  replace H := Option.bind_eq_some_iff.mp H
                  obtain ⟨⟨t207, t208, t209, t210, t211, t212, t213⟩, A1970, H⟩ := H
                  dsimp only at H
                  have A194 := Aside0.mk A1970
                  clear A1970
                  have hr1 : r = true := hrt.out
                  subst hr1
                  have hcase := sees_case H
                  clear H
                  obtain ⟨Ao208, co208, eo208⟩ := Kd.R_slice HO_16.out
                  subst eo208
                  go_wp2_with (first | ((with_reducible refine gate_callee (f := 16) rfl ?_); refine goesL_ (some 105) rfl rfl Try.func16 (by kernel_rfl) rfl #[.slice Ao208 t203.length co208, .agg #[.int .u64 a2_0, .int .u32 a2_1]] rfl (by (try simp only [List.map_toArray, List.map_cons, List.map_nil]); first | done | rfl | (simp only [List.length_drop, List.length_take]; rfl)) ?_; (with_reducible refine (chain_At.calls kj178 _ _ t203 a2_0 a2_1 t207 t208 t209 t210 t211 t212 t213 _ ?side1 ?side2 A194.out).mono ?_); (case side1 => repeat (first | exact (Kd.R_reads' HO_16.out).2.2 | (with_reducible refine Kd.C_alloc ?_ _) | (with_reducible refine Kd.C_drewN ?_ _) | (with_reducible refine Kd.C_drew ?_))); (case side2 => exact (Kd.R_reads' HO_16.out).2.1); rintro e w209 ⟨rfl, hb⟩; refine ⟨_, rfl, ?_⟩; have n0_ := Aside0.mk (Kd.R_below (by (with_reducible repeat (first | apply Kd.R_alloc | apply Kd.R_drewN | apply Kd.R_drew)); exact HO_16.out) hb); have n1_ := Aside0.mk (blk_below (g := gb175) (o := .cells #[.int .u64 a1_0, .int .u32 a1_1, .int .u32 a1_2, .int .u32 a1_3, .string a1_4, .bool a1_5] 31 (0, 0)) (by (with_reducible repeat (first | refine blk_drewN ?_ _ | refine blk_drew ?_ | refine blk_alloc ?_ _)); exact BK175.out) hb); have n2_ := Aside0.mk (blk_below (g := gb176) (o := .cells #[.int .u64 a2_0, .int .u32 a2_1, .int .u64 a2_2, .int .u32 a2_3] 35 (0, 0)) (by (with_reducible repeat (first | refine blk_drewN ?_ _ | refine blk_drew ?_ | refine blk_alloc ?_ _)); exact BK176.out) hb); have n3_ := Aside0.mk (blk_below (g := gb181) (o := .cells #[.int .u64 a2_0, .int .u32 a2_1] 27 (0, 0)) (by (with_reducible repeat (first | refine blk_drewN ?_ _ | refine blk_drew ?_ | refine blk_alloc ?_ _)); exact BK181.out) hb); have n4_ := Aside0.mk (blk_below (g := gb182) (o := .cells #[.int .u64 a2_2, .int .u32 a2_3] 27 (0, 0)) (by (with_reducible repeat (first | refine blk_drewN ?_ _ | refine blk_drew ?_ | refine blk_alloc ?_ _)); exact BK182.out) hb); have n5_ := Aside0.mk (blk_below (g := gb190) (o := .cells #[.int .u64 t183, .int .u32 t184, .int .u32 t185, .int .u32 t186, .string t187, .bool t188] 31 (0, 0)) (by (with_reducible repeat (first | refine blk_drewN ?_ _ | refine blk_drew ?_ | refine blk_alloc ?_ _)); exact BK190.out) hb); have n6_ := Aside0.mk (below_step (by repeat (first | (with_reducible first | exact HB.out | apply below_alloc | apply pw_below_drewN | apply below_drew1 | refine below_set ?_ GE175.out | refine below_set ?_ GE176.out | refine below_set ?_ GE181.out | refine below_set ?_ GE182.out | refine below_set ?_ GE190.out) | exact HB.out)) hb); clear HO_16; clear BK175; clear BK176; clear BK181; clear BK182; clear BK190; clear HB; have HO_16 := n0_; have BK175 := n1_; have BK176 := n2_; have BK181 := n3_; have BK182 := n4_; have BK190 := n5_; have HB := n6_; clear n0_ n1_ n2_ n3_ n4_ n5_ n6_; (try clear hb); (try clear hb2); (try clear hk); (try clear hi)) | ((with_reducible refine gate_dst (N := 17) rfl ?_); (try (refine gate_guard (by rfl) ?_; dsimp only)); refine box_event ?hg (N := 17) ?hd (cs := #[.int .u64 0, .int .u32 0, .int .u32 0, .int .u32 0, .string (⟨#[]⟩ : ByteArray), .bool false]) (t := 31) ?hr ?_; (case hd => rfl); (case hg => rfl); (case hr => first | (go_simp; done) | (go_simp; rfl)); intro gb214 hg w210 hbox hb; have n0_ := Aside0.mk (Kd.R_below (Kd.R_elderB (by (with_reducible repeat (first | apply Kd.R_alloc | apply Kd.R_drewN | apply Kd.R_drew)); exact HO_16.out) gb214 (Nat.le_of_eq hg.symm)) hb); have n1_ := Aside0.mk (blk_below (g := gb175) (o := .cells #[.int .u64 a1_0, .int .u32 a1_1, .int .u32 a1_2, .int .u32 a1_3, .string a1_4, .bool a1_5] 31 (0, 0)) (by (with_reducible repeat (first | refine blk_drewN ?_ _ | refine blk_drew ?_ | refine blk_alloc ?_ _)); exact BK175.out) hb); have n2_ := Aside0.mk (blk_below (g := gb176) (o := .cells #[.int .u64 a2_0, .int .u32 a2_1, .int .u64 a2_2, .int .u32 a2_3] 35 (0, 0)) (by (with_reducible repeat (first | refine blk_drewN ?_ _ | refine blk_drew ?_ | refine blk_alloc ?_ _)); exact BK176.out) hb); have n3_ := Aside0.mk (blk_below (g := gb181) (o := .cells #[.int .u64 a2_0, .int .u32 a2_1] 27 (0, 0)) (by (with_reducible repeat (first | refine blk_drewN ?_ _ | refine blk_drew ?_ | refine blk_alloc ?_ _)); exact BK181.out) hb); have n4_ := Aside0.mk (blk_below (g := gb182) (o := .cells #[.int .u64 a2_2, .int .u32 a2_3] 27 (0, 0)) (by (with_reducible repeat (first | refine blk_drewN ?_ _ | refine blk_drew ?_ | refine blk_alloc ?_ _)); exact BK182.out) hb); have n5_ := Aside0.mk (blk_below (g := gb190) (o := .cells #[.int .u64 t183, .int .u32 t184, .int .u32 t185, .int .u32 t186, .string t187, .bool t188] 31 (0, 0)) (by (with_reducible repeat (first | refine blk_drewN ?_ _ | refine blk_drew ?_ | refine blk_alloc ?_ _)); exact BK190.out) hb); have n6_ := Aside0.mk (below_step (by repeat (first | (with_reducible first | exact HB.out | apply below_alloc | apply pw_below_drewN | apply below_drew1 | refine below_set ?_ GE175.out | refine below_set ?_ GE176.out | refine below_set ?_ GE181.out | refine below_set ?_ GE182.out | refine below_set ?_ GE190.out) | exact HB.out)) hb); have n7_ := Aside0.mk (hbox); have n8_ := Aside0.mk ((by rw [hg]; exact (below_size (by repeat (first | (with_reducible first | exact HB.out | apply below_alloc | apply pw_below_drewN | apply below_drew1 | refine below_set ?_ GE175.out | refine below_set ?_ GE176.out | refine below_set ?_ GE181.out | refine below_set ?_ GE182.out | refine below_set ?_ GE190.out) | exact HB.out))) : w.heap.size ≤ gb214)); have n9_ := Aside0.mk ((by rw [hg]; exact (below_size (by repeat (first | (with_reducible first | exact HB.out | apply below_alloc | apply pw_below_drewN | apply below_drew1 | refine below_set ?_ GE175.out | refine below_set ?_ GE176.out | refine below_set ?_ GE181.out | refine below_set ?_ GE182.out | refine below_set ?_ GE190.out) | exact HB.out))) : w.heap.size ≤ gb214)); have n10_ := Aside0.mk ((by rw [hg]; exact Nat.ne_of_lt (blk_lt (g := gb175) (o := .cells #[.int .u64 a1_0, .int .u32 a1_1, .int .u32 a1_2, .int .u32 a1_3, .string a1_4, .bool a1_5] 31 (0, 0)) (by (with_reducible repeat (first | refine blk_drewN ?_ _ | refine blk_drew ?_ | refine blk_alloc ?_ _)); exact BK175.out)) : gb175 ≠ gb214)); have n11_ := Aside0.mk ((by rw [hg]; exact Nat.ne_of_gt (blk_lt (g := gb175) (o := .cells #[.int .u64 a1_0, .int .u32 a1_1, .int .u32 a1_2, .int .u32 a1_3, .string a1_4, .bool a1_5] 31 (0, 0)) (by (with_reducible repeat (first | refine blk_drewN ?_ _ | refine blk_drew ?_ | refine blk_alloc ?_ _)); exact BK175.out)) : gb214 ≠ gb175)); have n12_ := Aside0.mk ((by rw [hg]; exact Nat.ne_of_lt (blk_lt (g := gb176) (o := .cells #[.int .u64 a2_0, .int .u32 a2_1, .int .u64 a2_2, .int .u32 a2_3] 35 (0, 0)) (by (with_reducible repeat (first | refine blk_drewN ?_ _ | refine blk_drew ?_ | refine blk_alloc ?_ _)); exact BK176.out)) : gb176 ≠ gb214)); have n13_ := Aside0.mk ((by rw [hg]; exact Nat.ne_of_gt (blk_lt (g := gb176) (o := .cells #[.int .u64 a2_0, .int .u32 a2_1, .int .u64 a2_2, .int .u32 a2_3] 35 (0, 0)) (by (with_reducible repeat (first | refine blk_drewN ?_ _ | refine blk_drew ?_ | refine blk_alloc ?_ _)); exact BK176.out)) : gb214 ≠ gb176)); have n14_ := Aside0.mk ((by rw [hg]; exact Nat.ne_of_lt (blk_lt (g := gb181) (o := .cells #[.int .u64 a2_0, .int .u32 a2_1] 27 (0, 0)) (by (with_reducible repeat (first | refine blk_drewN ?_ _ | refine blk_drew ?_ | refine blk_alloc ?_ _)); exact BK181.out)) : gb181 ≠ gb214)); have n15_ := Aside0.mk ((by rw [hg]; exact Nat.ne_of_gt (blk_lt (g := gb181) (o := .cells #[.int .u64 a2_0, .int .u32 a2_1] 27 (0, 0)) (by (with_reducible repeat (first | refine blk_drewN ?_ _ | refine blk_drew ?_ | refine blk_alloc ?_ _)); exact BK181.out)) : gb214 ≠ gb181)); have n16_ := Aside0.mk ((by rw [hg]; exact Nat.ne_of_lt (blk_lt (g := gb182) (o := .cells #[.int .u64 a2_2, .int .u32 a2_3] 27 (0, 0)) (by (with_reducible repeat (first | refine blk_drewN ?_ _ | refine blk_drew ?_ | refine blk_alloc ?_ _)); exact BK182.out)) : gb182 ≠ gb214)); have n17_ := Aside0.mk ((by rw [hg]; exact Nat.ne_of_gt (blk_lt (g := gb182) (o := .cells #[.int .u64 a2_2, .int .u32 a2_3] 27 (0, 0)) (by (with_reducible repeat (first | refine blk_drewN ?_ _ | refine blk_drew ?_ | refine blk_alloc ?_ _)); exact BK182.out)) : gb214 ≠ gb182)); have n18_ := Aside0.mk ((by rw [hg]; exact Nat.ne_of_lt (blk_lt (g := gb190) (o := .cells #[.int .u64 t183, .int .u32 t184, .int .u32 t185, .int .u32 t186, .string t187, .bool t188] 31 (0, 0)) (by (with_reducible repeat (first | refine blk_drewN ?_ _ | refine blk_drew ?_ | refine blk_alloc ?_ _)); exact BK190.out)) : gb190 ≠ gb214)); have n19_ := Aside0.mk ((by rw [hg]; exact Nat.ne_of_gt (blk_lt (g := gb190) (o := .cells #[.int .u64 t183, .int .u32 t184, .int .u32 t185, .int .u32 t186, .string t187, .bool t188] 31 (0, 0)) (by (with_reducible repeat (first | refine blk_drewN ?_ _ | refine blk_drew ?_ | refine blk_alloc ?_ _)); exact BK190.out)) : gb214 ≠ gb190)); clear HO_16; clear BK175; clear BK176; clear BK181; clear BK182; clear BK190; clear HB; have HO_16 := n0_; have BK175 := n1_; have BK176 := n2_; have BK181 := n3_; have BK182 := n4_; have BK190 := n5_; have HB := n6_; have BK214 := n7_; have GW214 := n8_; have GE214 := n9_; have NB175_214 := n10_; have NB214_175 := n11_; have NB176_214 := n12_; have NB214_176 := n13_; have NB181_214 := n14_; have NB214_181 := n15_; have NB182_214 := n16_; have NB214_182 := n17_; have NB190_214 := n18_; have NB214_190 := n19_; clear n0_ n1_ n2_ n3_ n4_ n5_ n6_ n7_ n8_ n9_ n10_ n11_ n12_ n13_ n14_ n15_ n16_ n17_ n18_ n19_; clear hb hbox hg; have hnb211 := NB214_175.out; have hnc211 := NB175_214.out; have hnb212 := NB214_176.out; have hnc212 := NB176_214.out; have hnb213 := NB214_181.out; have hnc213 := NB181_214.out; have hnb214 := NB214_182.out; have hnc214 := NB182_214.out; have hnb215 := NB214_190.out; have hnc215 := NB190_214.out; have hcz216_0 : w210.cell? ⟨gb214, 0, none⟩ = some (.int .u64 0) := (blk_cell BK214.out 0).trans rfl; have hcz216_1 : w210.cell? ⟨gb214, 1, none⟩ = some (.int .u32 0) := (blk_cell BK214.out 1).trans rfl; have hcz216_2 : w210.cell? ⟨gb214, 2, none⟩ = some (.int .u32 0) := (blk_cell BK214.out 2).trans rfl; have hcz216_3 : w210.cell? ⟨gb214, 3, none⟩ = some (.int .u32 0) := (blk_cell BK214.out 3).trans rfl; have hcz216_4 : w210.cell? ⟨gb214, 4, none⟩ = some (.string (⟨#[]⟩ : ByteArray)) := (blk_cell BK214.out 4).trans rfl; have hcz216_5 : w210.cell? ⟨gb214, 5, none⟩ = some (.bool false) := (blk_cell BK214.out 5).trans rfl; have hfz216_0 := blk_frozen BK214.out 0; have hfz216_1 := blk_frozen BK214.out 1; have hfz216_2 := blk_frozen BK214.out 2; have hfz216_3 := blk_frozen BK214.out 3; have hfz216_4 := blk_frozen BK214.out 4; have hfz216_5 := blk_frozen BK214.out 5))
                  have n5_ : Aside0 (((((((w210.setCell ⟨gb214, 0, none⟩ (.int .u64 t207)).setCell ⟨gb214, 1, none⟩ (.int .u32 t208)).setCell ⟨gb214, 2, none⟩ (.int .u32 t209)).setCell ⟨gb214, 3, none⟩ (.int .u32 t210)).setCell ⟨gb214, 4, none⟩ (.string t211)).setCell ⟨gb214, 5, none⟩ (.bool t212)).heap[gb190]? = some (.cells #[.int .u64 t183, .int .u32 t184, .int .u32 t185, .int .u32 t186, .string t187, .bool t188] 31 (0, 0))) := ⟨by (with_reducible repeat (first | refine blk_drewN ?_ _ | refine blk_drew ?_ | refine blk_alloc ?_ _)); refine blk_far ?_ NB190_214.out _; (with_reducible repeat (first | refine blk_drewN ?_ _ | refine blk_drew ?_ | refine blk_alloc ?_ _)); refine blk_far ?_ NB190_214.out _; (with_reducible repeat (first | refine blk_drewN ?_ _ | refine blk_drew ?_ | refine blk_alloc ?_ _)); refine blk_far ?_ NB190_214.out _; (with_reducible repeat (first | refine blk_drewN ?_ _ | refine blk_drew ?_ | refine blk_alloc ?_ _)); refine blk_far ?_ NB190_214.out _; (with_reducible repeat (first | refine blk_drewN ?_ _ | refine blk_drew ?_ | refine blk_alloc ?_ _)); refine blk_far ?_ NB190_214.out _; (with_reducible repeat (first | refine blk_drewN ?_ _ | refine blk_drew ?_ | refine blk_alloc ?_ _)); refine blk_far ?_ NB190_214.out _; (with_reducible repeat (first | refine blk_drewN ?_ _ | refine blk_drew ?_ | refine blk_alloc ?_ _)); exact BK190.out⟩
                  have n6_ : Aside0 (((((((w210.setCell ⟨gb214, 0, none⟩ (.int .u64 t207)).setCell ⟨gb214, 1, none⟩ (.int .u32 t208)).setCell ⟨gb214, 2, none⟩ (.int .u32 t209)).setCell ⟨gb214, 3, none⟩ (.int .u32 t210)).setCell ⟨gb214, 4, none⟩ (.string t211)).setCell ⟨gb214, 5, none⟩ (.bool t212)).heap[gb214]? = some (.cells #[.int .u64 t207, .int .u32 t208, .int .u32 t209, .int .u32 t210, .string t211, .bool t212] 31 (0, 0))) := ⟨by (with_reducible repeat (first | refine blk_drewN ?_ _ | refine blk_drew ?_ | refine blk_alloc ?_ _)); refine blk_put (cs := #[.int .u64 t207, .int .u32 t208, .int .u32 t209, .int .u32 t210, .string t211, .bool false]) ?_ 5 _ rfl; (with_reducible repeat (first | refine blk_drewN ?_ _ | refine blk_drew ?_ | refine blk_alloc ?_ _)); refine blk_put (cs := #[.int .u64 t207, .int .u32 t208, .int .u32 t209, .int .u32 t210, .string (⟨#[]⟩ : ByteArray), .bool false]) ?_ 4 _ rfl; (with_reducible repeat (first | refine blk_drewN ?_ _ | refine blk_drew ?_ | refine blk_alloc ?_ _)); refine blk_put (cs := #[.int .u64 t207, .int .u32 t208, .int .u32 t209, .int .u32 0, .string (⟨#[]⟩ : ByteArray), .bool false]) ?_ 3 _ rfl; (with_reducible repeat (first | refine blk_drewN ?_ _ | refine blk_drew ?_ | refine blk_alloc ?_ _)); refine blk_put (cs := #[.int .u64 t207, .int .u32 t208, .int .u32 0, .int .u32 0, .string (⟨#[]⟩ : ByteArray), .bool false]) ?_ 2 _ rfl; (with_reducible repeat (first | refine blk_drewN ?_ _ | refine blk_drew ?_ | refine blk_alloc ?_ _)); refine blk_put (cs := #[.int .u64 t207, .int .u32 0, .int .u32 0, .int .u32 0, .string (⟨#[]⟩ : ByteArray), .bool false]) ?_ 1 _ rfl; (with_reducible repeat (first | refine blk_drewN ?_ _ | refine blk_drew ?_ | refine blk_alloc ?_ _)); refine blk_put (cs := #[.int .u64 0, .int .u32 0, .int .u32 0, .int .u32 0, .string (⟨#[]⟩ : ByteArray), .bool false]) ?_ 0 _ rfl; (with_reducible repeat (first | refine blk_drewN ?_ _ | refine blk_drew ?_ | refine blk_alloc ?_ _)); exact BK214.out⟩
                  have n7_ : Aside0 (Below w.heap.size w ((((((w210.setCell ⟨gb214, 0, none⟩ (.int .u64 t207)).setCell ⟨gb214, 1, none⟩ (.int .u32 t208)).setCell ⟨gb214, 2, none⟩ (.int .u32 t209)).setCell ⟨gb214, 3, none⟩ (.int .u32 t210)).setCell ⟨gb214, 4, none⟩ (.string t211)).setCell ⟨gb214, 5, none⟩ (.bool t212))) := ⟨by repeat (first | (with_reducible first | exact HB.out | apply below_alloc | apply pw_below_drewN | apply below_drew1 | refine below_set ?_ GE175.out | refine below_set ?_ GE176.out | refine below_set ?_ GE181.out | refine below_set ?_ GE182.out | refine below_set ?_ GE190.out | refine below_set ?_ GE214.out) | exact HB.out)⟩
                  clear HO_16 BK175 BK176 BK181 BK182
                  clear BK190 BK214 HB
                  generalize ((((((w210.setCell ⟨gb214, 0, none⟩ (.int .u64 t207)).setCell ⟨gb214, 1, none⟩ (.int .u32 t208)).setCell ⟨gb214, 2, none⟩ (.int .u32 t209)).setCell ⟨gb214, 3, none⟩ (.int .u32 t210)).setCell ⟨gb214, 4, none⟩ (.string t211)).setCell ⟨gb214, 5, none⟩ (.bool t212)) = w217 at n5_ n6_ n7_ ⊢
                  have BK190 := n5_
                  have BK214 := n6_
                  have HB := n7_
                  clear n5_ n6_ n7_
                  have HD190 := BK190
                  have HD214 := BK214
                  have HBD := HB
                  clear BK190 BK214 HB
                  have hB190 := HD190.out
                  have hB214 := HD214.out
                  have hcgb190_0 := blk_cell HD190.out 0
                  have hfgb190_0 := blk_frozen HD190.out 0
                  have hcgb190_1 := blk_cell HD190.out 1
                  have hfgb190_1 := blk_frozen HD190.out 1
                  have hcgb190_2 := blk_cell HD190.out 2
                  have hfgb190_2 := blk_frozen HD190.out 2
                  have hcgb190_3 := blk_cell HD190.out 3
                  have hfgb190_3 := blk_frozen HD190.out 3
                  have hcgb190_4 := blk_cell HD190.out 4
                  have hfgb190_4 := blk_frozen HD190.out 4
                  have hcgb190_5 := blk_cell HD190.out 5
                  have hfgb190_5 := blk_frozen HD190.out 5
                  have hcgb214_0 := blk_cell HD214.out 0
                  have hfgb214_0 := blk_frozen HD214.out 0
                  have hcgb214_1 := blk_cell HD214.out 1
                  have hfgb214_1 := blk_frozen HD214.out 1
                  have hcgb214_2 := blk_cell HD214.out 2
                  have hfgb214_2 := blk_frozen HD214.out 2
                  have hcgb214_3 := blk_cell HD214.out 3
                  have hfgb214_3 := blk_frozen HD214.out 3
                  have hcgb214_4 := blk_cell HD214.out 4
                  have hfgb214_4 := blk_frozen HD214.out 4
                  have hcgb214_5 := blk_cell HD214.out 5
                  have hfgb214_5 := blk_frozen HD214.out 5
                  simp only [List.getElem?_toArray, List.getElem?_cons_zero, List.getElem?_cons_succ, Option.map_some] at hcgb190_0 hcgb190_1 hcgb190_2 hcgb190_3 hcgb190_4 hcgb190_5 hcgb214_0 hcgb214_1 hcgb214_2 hcgb214_3 hcgb214_4 hcgb214_5
                  clear hB190 hB214
                  rcases hcase with ⟨rfl, rfl, rfl, rfl, heq⟩ | ⟨rfl, rfl, rfl, rfl⟩ | ⟨rfl, rfl, rfl⟩ | ⟨rfl, rfl, rfl⟩ | ⟨rfl, rfl⟩
                  all_goals (go_quiet (fail))
                  all_goals go_wp2
                  all_goals go_ret
                  · exact ⟨by first | rfl | (simpa using heq; done), by repeat (first | (with_reducible first | exact HBD.out | apply below_alloc | apply pw_below_drewN | apply below_drew1 | refine below_set ?_ GE175.out | refine below_set ?_ GE176.out | refine below_set ?_ GE181.out | refine below_set ?_ GE182.out | refine below_set ?_ GE190.out | refine below_set ?_ GE214.out) | exact HBD.out)⟩
                  · exact ⟨by first | rfl | (simp [*]; done), by repeat (first | (with_reducible first | exact HBD.out | apply below_alloc | apply pw_below_drewN | apply below_drew1 | refine below_set ?_ GE175.out | refine below_set ?_ GE176.out | refine below_set ?_ GE181.out | refine below_set ?_ GE182.out | refine below_set ?_ GE190.out | refine below_set ?_ GE214.out) | exact HBD.out)⟩
                  · exact ⟨by first | rfl | (simp [*]; done), by repeat (first | (with_reducible first | exact HBD.out | apply below_alloc | apply pw_below_drewN | apply below_drew1 | refine below_set ?_ GE175.out | refine below_set ?_ GE176.out | refine below_set ?_ GE181.out | refine below_set ?_ GE182.out | refine below_set ?_ GE190.out | refine below_set ?_ GE214.out) | exact HBD.out)⟩
                  · exact ⟨by first | rfl | (simp [*]; done), by repeat (first | (with_reducible first | exact HBD.out | apply below_alloc | apply pw_below_drewN | apply below_drew1 | refine below_set ?_ GE175.out | refine below_set ?_ GE176.out | refine below_set ?_ GE181.out | refine below_set ?_ GE182.out | refine below_set ?_ GE190.out | refine below_set ?_ GE214.out) | exact HBD.out)⟩
                  · exact ⟨by first | rfl | (simp [*]; done), by repeat (first | (with_reducible first | exact HBD.out | apply below_alloc | apply pw_below_drewN | apply below_drew1 | refine below_set ?_ GE175.out | refine below_set ?_ GE176.out | refine below_set ?_ GE181.out | refine below_set ?_ GE182.out | refine below_set ?_ GE190.out | refine below_set ?_ GE214.out) | exact HBD.out)⟩
                · rw [if_neg c196] at H
                  have c196b0 : decide (a2_2 < a2_0) = false := decide_eq_false c196
                  clear c196
                  by_cases c415 : a2_0 = a2_2
                  · rw [if_pos c415] at H
                    have c415b0 : (a2_0 == a2_2) = true := beq_iff_eq.mpr c415
                    clear c415
                    by_cases c416 : a2_1 ≥ a2_3
                    · rw [if_pos c416] at H
                      have c416b0 : decide (a2_3 ≤ a2_1) = true := decide_eq_true c416
                      clear c416
                      replace H := Option.bind_eq_some_iff.mp H
                      obtain ⟨⟨t207, t208, t209, t210, t211, t212, t213⟩, A1970, H⟩ := H
                      dsimp only at H
                      have A194 := Aside0.mk A1970
                      clear A1970
                      have hr1 : r = true := hrt.out
                      subst hr1
                      have hcase := sees_case H
                      clear H
                      obtain ⟨Ao208, co208, eo208⟩ := Kd.R_slice HO_16.out
                      subst eo208
                      go_wp2_with (first | ((with_reducible refine gate_callee (f := 16) rfl ?_); refine goesL_ (some 105) rfl rfl Try.func16 (by kernel_rfl) rfl #[.slice Ao208 t203.length co208, .agg #[.int .u64 a2_0, .int .u32 a2_1]] rfl (by (try simp only [List.map_toArray, List.map_cons, List.map_nil]); first | done | rfl | (simp only [List.length_drop, List.length_take]; rfl)) ?_; (with_reducible refine (chain_At.calls kj178 _ _ t203 a2_0 a2_1 t207 t208 t209 t210 t211 t212 t213 _ ?side1 ?side2 A194.out).mono ?_); (case side1 => repeat (first | exact (Kd.R_reads' HO_16.out).2.2 | (with_reducible refine Kd.C_alloc ?_ _) | (with_reducible refine Kd.C_drewN ?_ _) | (with_reducible refine Kd.C_drew ?_))); (case side2 => exact (Kd.R_reads' HO_16.out).2.1); rintro e w209 ⟨rfl, hb⟩; refine ⟨_, rfl, ?_⟩; have n0_ := Aside0.mk (Kd.R_below (by (with_reducible repeat (first | apply Kd.R_alloc | apply Kd.R_drewN | apply Kd.R_drew)); exact HO_16.out) hb); have n1_ := Aside0.mk (blk_below (g := gb175) (o := .cells #[.int .u64 a1_0, .int .u32 a1_1, .int .u32 a1_2, .int .u32 a1_3, .string a1_4, .bool a1_5] 31 (0, 0)) (by (with_reducible repeat (first | refine blk_drewN ?_ _ | refine blk_drew ?_ | refine blk_alloc ?_ _)); exact BK175.out) hb); have n2_ := Aside0.mk (blk_below (g := gb176) (o := .cells #[.int .u64 a2_0, .int .u32 a2_1, .int .u64 a2_2, .int .u32 a2_3] 35 (0, 0)) (by (with_reducible repeat (first | refine blk_drewN ?_ _ | refine blk_drew ?_ | refine blk_alloc ?_ _)); exact BK176.out) hb); have n3_ := Aside0.mk (blk_below (g := gb181) (o := .cells #[.int .u64 a2_0, .int .u32 a2_1] 27 (0, 0)) (by (with_reducible repeat (first | refine blk_drewN ?_ _ | refine blk_drew ?_ | refine blk_alloc ?_ _)); exact BK181.out) hb); have n4_ := Aside0.mk (blk_below (g := gb182) (o := .cells #[.int .u64 a2_2, .int .u32 a2_3] 27 (0, 0)) (by (with_reducible repeat (first | refine blk_drewN ?_ _ | refine blk_drew ?_ | refine blk_alloc ?_ _)); exact BK182.out) hb); have n5_ := Aside0.mk (blk_below (g := gb190) (o := .cells #[.int .u64 t183, .int .u32 t184, .int .u32 t185, .int .u32 t186, .string t187, .bool t188] 31 (0, 0)) (by (with_reducible repeat (first | refine blk_drewN ?_ _ | refine blk_drew ?_ | refine blk_alloc ?_ _)); exact BK190.out) hb); have n6_ := Aside0.mk (below_step (by repeat (first | (with_reducible first | exact HB.out | apply below_alloc | apply pw_below_drewN | apply below_drew1 | refine below_set ?_ GE175.out | refine below_set ?_ GE176.out | refine below_set ?_ GE181.out | refine below_set ?_ GE182.out | refine below_set ?_ GE190.out) | exact HB.out)) hb); clear HO_16; clear BK175; clear BK176; clear BK181; clear BK182; clear BK190; clear HB; have HO_16 := n0_; have BK175 := n1_; have BK176 := n2_; have BK181 := n3_; have BK182 := n4_; have BK190 := n5_; have HB := n6_; clear n0_ n1_ n2_ n3_ n4_ n5_ n6_; (try clear hb); (try clear hb2); (try clear hk); (try clear hi)) | ((with_reducible refine gate_dst (N := 17) rfl ?_); (try (refine gate_guard (by rfl) ?_; dsimp only)); refine box_event ?hg (N := 17) ?hd (cs := #[.int .u64 0, .int .u32 0, .int .u32 0, .int .u32 0, .string (⟨#[]⟩ : ByteArray), .bool false]) (t := 31) ?hr ?_; (case hd => rfl); (case hg => rfl); (case hr => first | (go_simp; done) | (go_simp; rfl)); intro gb214 hg w210 hbox hb; have n0_ := Aside0.mk (Kd.R_below (Kd.R_elderB (by (with_reducible repeat (first | apply Kd.R_alloc | apply Kd.R_drewN | apply Kd.R_drew)); exact HO_16.out) gb214 (Nat.le_of_eq hg.symm)) hb); have n1_ := Aside0.mk (blk_below (g := gb175) (o := .cells #[.int .u64 a1_0, .int .u32 a1_1, .int .u32 a1_2, .int .u32 a1_3, .string a1_4, .bool a1_5] 31 (0, 0)) (by (with_reducible repeat (first | refine blk_drewN ?_ _ | refine blk_drew ?_ | refine blk_alloc ?_ _)); exact BK175.out) hb); have n2_ := Aside0.mk (blk_below (g := gb176) (o := .cells #[.int .u64 a2_0, .int .u32 a2_1, .int .u64 a2_2, .int .u32 a2_3] 35 (0, 0)) (by (with_reducible repeat (first | refine blk_drewN ?_ _ | refine blk_drew ?_ | refine blk_alloc ?_ _)); exact BK176.out) hb); have n3_ := Aside0.mk (blk_below (g := gb181) (o := .cells #[.int .u64 a2_0, .int .u32 a2_1] 27 (0, 0)) (by (with_reducible repeat (first | refine blk_drewN ?_ _ | refine blk_drew ?_ | refine blk_alloc ?_ _)); exact BK181.out) hb); have n4_ := Aside0.mk (blk_below (g := gb182) (o := .cells #[.int .u64 a2_2, .int .u32 a2_3] 27 (0, 0)) (by (with_reducible repeat (first | refine blk_drewN ?_ _ | refine blk_drew ?_ | refine blk_alloc ?_ _)); exact BK182.out) hb); have n5_ := Aside0.mk (blk_below (g := gb190) (o := .cells #[.int .u64 t183, .int .u32 t184, .int .u32 t185, .int .u32 t186, .string t187, .bool t188] 31 (0, 0)) (by (with_reducible repeat (first | refine blk_drewN ?_ _ | refine blk_drew ?_ | refine blk_alloc ?_ _)); exact BK190.out) hb); have n6_ := Aside0.mk (below_step (by repeat (first | (with_reducible first | exact HB.out | apply below_alloc | apply pw_below_drewN | apply below_drew1 | refine below_set ?_ GE175.out | refine below_set ?_ GE176.out | refine below_set ?_ GE181.out | refine below_set ?_ GE182.out | refine below_set ?_ GE190.out) | exact HB.out)) hb); have n7_ := Aside0.mk (hbox); have n8_ := Aside0.mk ((by rw [hg]; exact (below_size (by repeat (first | (with_reducible first | exact HB.out | apply below_alloc | apply pw_below_drewN | apply below_drew1 | refine below_set ?_ GE175.out | refine below_set ?_ GE176.out | refine below_set ?_ GE181.out | refine below_set ?_ GE182.out | refine below_set ?_ GE190.out) | exact HB.out))) : w.heap.size ≤ gb214)); have n9_ := Aside0.mk ((by rw [hg]; exact (below_size (by repeat (first | (with_reducible first | exact HB.out | apply below_alloc | apply pw_below_drewN | apply below_drew1 | refine below_set ?_ GE175.out | refine below_set ?_ GE176.out | refine below_set ?_ GE181.out | refine below_set ?_ GE182.out | refine below_set ?_ GE190.out) | exact HB.out))) : w.heap.size ≤ gb214)); have n10_ := Aside0.mk ((by rw [hg]; exact Nat.ne_of_lt (blk_lt (g := gb175) (o := .cells #[.int .u64 a1_0, .int .u32 a1_1, .int .u32 a1_2, .int .u32 a1_3, .string a1_4, .bool a1_5] 31 (0, 0)) (by (with_reducible repeat (first | refine blk_drewN ?_ _ | refine blk_drew ?_ | refine blk_alloc ?_ _)); exact BK175.out)) : gb175 ≠ gb214)); have n11_ := Aside0.mk ((by rw [hg]; exact Nat.ne_of_gt (blk_lt (g := gb175) (o := .cells #[.int .u64 a1_0, .int .u32 a1_1, .int .u32 a1_2, .int .u32 a1_3, .string a1_4, .bool a1_5] 31 (0, 0)) (by (with_reducible repeat (first | refine blk_drewN ?_ _ | refine blk_drew ?_ | refine blk_alloc ?_ _)); exact BK175.out)) : gb214 ≠ gb175)); have n12_ := Aside0.mk ((by rw [hg]; exact Nat.ne_of_lt (blk_lt (g := gb176) (o := .cells #[.int .u64 a2_0, .int .u32 a2_1, .int .u64 a2_2, .int .u32 a2_3] 35 (0, 0)) (by (with_reducible repeat (first | refine blk_drewN ?_ _ | refine blk_drew ?_ | refine blk_alloc ?_ _)); exact BK176.out)) : gb176 ≠ gb214)); have n13_ := Aside0.mk ((by rw [hg]; exact Nat.ne_of_gt (blk_lt (g := gb176) (o := .cells #[.int .u64 a2_0, .int .u32 a2_1, .int .u64 a2_2, .int .u32 a2_3] 35 (0, 0)) (by (with_reducible repeat (first | refine blk_drewN ?_ _ | refine blk_drew ?_ | refine blk_alloc ?_ _)); exact BK176.out)) : gb214 ≠ gb176)); have n14_ := Aside0.mk ((by rw [hg]; exact Nat.ne_of_lt (blk_lt (g := gb181) (o := .cells #[.int .u64 a2_0, .int .u32 a2_1] 27 (0, 0)) (by (with_reducible repeat (first | refine blk_drewN ?_ _ | refine blk_drew ?_ | refine blk_alloc ?_ _)); exact BK181.out)) : gb181 ≠ gb214)); have n15_ := Aside0.mk ((by rw [hg]; exact Nat.ne_of_gt (blk_lt (g := gb181) (o := .cells #[.int .u64 a2_0, .int .u32 a2_1] 27 (0, 0)) (by (with_reducible repeat (first | refine blk_drewN ?_ _ | refine blk_drew ?_ | refine blk_alloc ?_ _)); exact BK181.out)) : gb214 ≠ gb181)); have n16_ := Aside0.mk ((by rw [hg]; exact Nat.ne_of_lt (blk_lt (g := gb182) (o := .cells #[.int .u64 a2_2, .int .u32 a2_3] 27 (0, 0)) (by (with_reducible repeat (first | refine blk_drewN ?_ _ | refine blk_drew ?_ | refine blk_alloc ?_ _)); exact BK182.out)) : gb182 ≠ gb214)); have n17_ := Aside0.mk ((by rw [hg]; exact Nat.ne_of_gt (blk_lt (g := gb182) (o := .cells #[.int .u64 a2_2, .int .u32 a2_3] 27 (0, 0)) (by (with_reducible repeat (first | refine blk_drewN ?_ _ | refine blk_drew ?_ | refine blk_alloc ?_ _)); exact BK182.out)) : gb214 ≠ gb182)); have n18_ := Aside0.mk ((by rw [hg]; exact Nat.ne_of_lt (blk_lt (g := gb190) (o := .cells #[.int .u64 t183, .int .u32 t184, .int .u32 t185, .int .u32 t186, .string t187, .bool t188] 31 (0, 0)) (by (with_reducible repeat (first | refine blk_drewN ?_ _ | refine blk_drew ?_ | refine blk_alloc ?_ _)); exact BK190.out)) : gb190 ≠ gb214)); have n19_ := Aside0.mk ((by rw [hg]; exact Nat.ne_of_gt (blk_lt (g := gb190) (o := .cells #[.int .u64 t183, .int .u32 t184, .int .u32 t185, .int .u32 t186, .string t187, .bool t188] 31 (0, 0)) (by (with_reducible repeat (first | refine blk_drewN ?_ _ | refine blk_drew ?_ | refine blk_alloc ?_ _)); exact BK190.out)) : gb214 ≠ gb190)); clear HO_16; clear BK175; clear BK176; clear BK181; clear BK182; clear BK190; clear HB; have HO_16 := n0_; have BK175 := n1_; have BK176 := n2_; have BK181 := n3_; have BK182 := n4_; have BK190 := n5_; have HB := n6_; have BK214 := n7_; have GW214 := n8_; have GE214 := n9_; have NB175_214 := n10_; have NB214_175 := n11_; have NB176_214 := n12_; have NB214_176 := n13_; have NB181_214 := n14_; have NB214_181 := n15_; have NB182_214 := n16_; have NB214_182 := n17_; have NB190_214 := n18_; have NB214_190 := n19_; clear n0_ n1_ n2_ n3_ n4_ n5_ n6_ n7_ n8_ n9_ n10_ n11_ n12_ n13_ n14_ n15_ n16_ n17_ n18_ n19_; clear hb hbox hg; have hnb211 := NB214_175.out; have hnc211 := NB175_214.out; have hnb212 := NB214_176.out; have hnc212 := NB176_214.out; have hnb213 := NB214_181.out; have hnc213 := NB181_214.out; have hnb214 := NB214_182.out; have hnc214 := NB182_214.out; have hnb215 := NB214_190.out; have hnc215 := NB190_214.out; have hcz216_0 : w210.cell? ⟨gb214, 0, none⟩ = some (.int .u64 0) := (blk_cell BK214.out 0).trans rfl; have hcz216_1 : w210.cell? ⟨gb214, 1, none⟩ = some (.int .u32 0) := (blk_cell BK214.out 1).trans rfl; have hcz216_2 : w210.cell? ⟨gb214, 2, none⟩ = some (.int .u32 0) := (blk_cell BK214.out 2).trans rfl; have hcz216_3 : w210.cell? ⟨gb214, 3, none⟩ = some (.int .u32 0) := (blk_cell BK214.out 3).trans rfl; have hcz216_4 : w210.cell? ⟨gb214, 4, none⟩ = some (.string (⟨#[]⟩ : ByteArray)) := (blk_cell BK214.out 4).trans rfl; have hcz216_5 : w210.cell? ⟨gb214, 5, none⟩ = some (.bool false) := (blk_cell BK214.out 5).trans rfl; have hfz216_0 := blk_frozen BK214.out 0; have hfz216_1 := blk_frozen BK214.out 1; have hfz216_2 := blk_frozen BK214.out 2; have hfz216_3 := blk_frozen BK214.out 3; have hfz216_4 := blk_frozen BK214.out 4; have hfz216_5 := blk_frozen BK214.out 5))
                      have n5_ : Aside0 (((((((w210.setCell ⟨gb214, 0, none⟩ (.int .u64 t207)).setCell ⟨gb214, 1, none⟩ (.int .u32 t208)).setCell ⟨gb214, 2, none⟩ (.int .u32 t209)).setCell ⟨gb214, 3, none⟩ (.int .u32 t210)).setCell ⟨gb214, 4, none⟩ (.string t211)).setCell ⟨gb214, 5, none⟩ (.bool t212)).heap[gb190]? = some (.cells #[.int .u64 t183, .int .u32 t184, .int .u32 t185, .int .u32 t186, .string t187, .bool t188] 31 (0, 0))) := ⟨by (with_reducible repeat (first | refine blk_drewN ?_ _ | refine blk_drew ?_ | refine blk_alloc ?_ _)); refine blk_far ?_ NB190_214.out _; (with_reducible repeat (first | refine blk_drewN ?_ _ | refine blk_drew ?_ | refine blk_alloc ?_ _)); refine blk_far ?_ NB190_214.out _; (with_reducible repeat (first | refine blk_drewN ?_ _ | refine blk_drew ?_ | refine blk_alloc ?_ _)); refine blk_far ?_ NB190_214.out _; (with_reducible repeat (first | refine blk_drewN ?_ _ | refine blk_drew ?_ | refine blk_alloc ?_ _)); refine blk_far ?_ NB190_214.out _; (with_reducible repeat (first | refine blk_drewN ?_ _ | refine blk_drew ?_ | refine blk_alloc ?_ _)); refine blk_far ?_ NB190_214.out _; (with_reducible repeat (first | refine blk_drewN ?_ _ | refine blk_drew ?_ | refine blk_alloc ?_ _)); refine blk_far ?_ NB190_214.out _; (with_reducible repeat (first | refine blk_drewN ?_ _ | refine blk_drew ?_ | refine blk_alloc ?_ _)); exact BK190.out⟩
                      have n6_ : Aside0 (((((((w210.setCell ⟨gb214, 0, none⟩ (.int .u64 t207)).setCell ⟨gb214, 1, none⟩ (.int .u32 t208)).setCell ⟨gb214, 2, none⟩ (.int .u32 t209)).setCell ⟨gb214, 3, none⟩ (.int .u32 t210)).setCell ⟨gb214, 4, none⟩ (.string t211)).setCell ⟨gb214, 5, none⟩ (.bool t212)).heap[gb214]? = some (.cells #[.int .u64 t207, .int .u32 t208, .int .u32 t209, .int .u32 t210, .string t211, .bool t212] 31 (0, 0))) := ⟨by (with_reducible repeat (first | refine blk_drewN ?_ _ | refine blk_drew ?_ | refine blk_alloc ?_ _)); refine blk_put (cs := #[.int .u64 t207, .int .u32 t208, .int .u32 t209, .int .u32 t210, .string t211, .bool false]) ?_ 5 _ rfl; (with_reducible repeat (first | refine blk_drewN ?_ _ | refine blk_drew ?_ | refine blk_alloc ?_ _)); refine blk_put (cs := #[.int .u64 t207, .int .u32 t208, .int .u32 t209, .int .u32 t210, .string (⟨#[]⟩ : ByteArray), .bool false]) ?_ 4 _ rfl; (with_reducible repeat (first | refine blk_drewN ?_ _ | refine blk_drew ?_ | refine blk_alloc ?_ _)); refine blk_put (cs := #[.int .u64 t207, .int .u32 t208, .int .u32 t209, .int .u32 0, .string (⟨#[]⟩ : ByteArray), .bool false]) ?_ 3 _ rfl; (with_reducible repeat (first | refine blk_drewN ?_ _ | refine blk_drew ?_ | refine blk_alloc ?_ _)); refine blk_put (cs := #[.int .u64 t207, .int .u32 t208, .int .u32 0, .int .u32 0, .string (⟨#[]⟩ : ByteArray), .bool false]) ?_ 2 _ rfl; (with_reducible repeat (first | refine blk_drewN ?_ _ | refine blk_drew ?_ | refine blk_alloc ?_ _)); refine blk_put (cs := #[.int .u64 t207, .int .u32 0, .int .u32 0, .int .u32 0, .string (⟨#[]⟩ : ByteArray), .bool false]) ?_ 1 _ rfl; (with_reducible repeat (first | refine blk_drewN ?_ _ | refine blk_drew ?_ | refine blk_alloc ?_ _)); refine blk_put (cs := #[.int .u64 0, .int .u32 0, .int .u32 0, .int .u32 0, .string (⟨#[]⟩ : ByteArray), .bool false]) ?_ 0 _ rfl; (with_reducible repeat (first | refine blk_drewN ?_ _ | refine blk_drew ?_ | refine blk_alloc ?_ _)); exact BK214.out⟩
                      have n7_ : Aside0 (Below w.heap.size w ((((((w210.setCell ⟨gb214, 0, none⟩ (.int .u64 t207)).setCell ⟨gb214, 1, none⟩ (.int .u32 t208)).setCell ⟨gb214, 2, none⟩ (.int .u32 t209)).setCell ⟨gb214, 3, none⟩ (.int .u32 t210)).setCell ⟨gb214, 4, none⟩ (.string t211)).setCell ⟨gb214, 5, none⟩ (.bool t212))) := ⟨by repeat (first | (with_reducible first | exact HB.out | apply below_alloc | apply pw_below_drewN | apply below_drew1 | refine below_set ?_ GE175.out | refine below_set ?_ GE176.out | refine below_set ?_ GE181.out | refine below_set ?_ GE182.out | refine below_set ?_ GE190.out | refine below_set ?_ GE214.out) | exact HB.out)⟩
                      clear HO_16 BK175 BK176 BK181 BK182
                      clear BK190 BK214 HB
                      generalize ((((((w210.setCell ⟨gb214, 0, none⟩ (.int .u64 t207)).setCell ⟨gb214, 1, none⟩ (.int .u32 t208)).setCell ⟨gb214, 2, none⟩ (.int .u32 t209)).setCell ⟨gb214, 3, none⟩ (.int .u32 t210)).setCell ⟨gb214, 4, none⟩ (.string t211)).setCell ⟨gb214, 5, none⟩ (.bool t212)) = w217 at n5_ n6_ n7_ ⊢
                      have BK190 := n5_
                      have BK214 := n6_
                      have HB := n7_
                      clear n5_ n6_ n7_
                      have HD190 := BK190
                      have HD214 := BK214
                      have HBD := HB
                      clear BK190 BK214 HB
                      have hB190 := HD190.out
                      have hB214 := HD214.out
                      have hcgb190_0 := blk_cell HD190.out 0
                      have hfgb190_0 := blk_frozen HD190.out 0
                      have hcgb190_1 := blk_cell HD190.out 1
                      have hfgb190_1 := blk_frozen HD190.out 1
                      have hcgb190_2 := blk_cell HD190.out 2
                      have hfgb190_2 := blk_frozen HD190.out 2
                      have hcgb190_3 := blk_cell HD190.out 3
                      have hfgb190_3 := blk_frozen HD190.out 3
                      have hcgb190_4 := blk_cell HD190.out 4
                      have hfgb190_4 := blk_frozen HD190.out 4
                      have hcgb190_5 := blk_cell HD190.out 5
                      have hfgb190_5 := blk_frozen HD190.out 5
                      have hcgb214_0 := blk_cell HD214.out 0
                      have hfgb214_0 := blk_frozen HD214.out 0
                      have hcgb214_1 := blk_cell HD214.out 1
                      have hfgb214_1 := blk_frozen HD214.out 1
                      have hcgb214_2 := blk_cell HD214.out 2
                      have hfgb214_2 := blk_frozen HD214.out 2
                      have hcgb214_3 := blk_cell HD214.out 3
                      have hfgb214_3 := blk_frozen HD214.out 3
                      have hcgb214_4 := blk_cell HD214.out 4
                      have hfgb214_4 := blk_frozen HD214.out 4
                      have hcgb214_5 := blk_cell HD214.out 5
                      have hfgb214_5 := blk_frozen HD214.out 5
                      simp only [List.getElem?_toArray, List.getElem?_cons_zero, List.getElem?_cons_succ, Option.map_some] at hcgb190_0 hcgb190_1 hcgb190_2 hcgb190_3 hcgb190_4 hcgb190_5 hcgb214_0 hcgb214_1 hcgb214_2 hcgb214_3 hcgb214_4 hcgb214_5
                      clear hB190 hB214
                      rcases hcase with ⟨rfl, rfl, rfl, rfl, heq⟩ | ⟨rfl, rfl, rfl, rfl⟩ | ⟨rfl, rfl, rfl⟩ | ⟨rfl, rfl, rfl⟩ | ⟨rfl, rfl⟩
                      all_goals (go_quiet (fail))
                      all_goals go_wp2
                      all_goals go_ret
                      · exact ⟨by first | rfl | (simpa using heq; done), by repeat (first | (with_reducible first | exact HBD.out | apply below_alloc | apply pw_below_drewN | apply below_drew1 | refine below_set ?_ GE175.out | refine below_set ?_ GE176.out | refine below_set ?_ GE181.out | refine below_set ?_ GE182.out | refine below_set ?_ GE190.out | refine below_set ?_ GE214.out) | exact HBD.out)⟩
                      · exact ⟨by first | rfl | (simp [*]; done), by repeat (first | (with_reducible first | exact HBD.out | apply below_alloc | apply pw_below_drewN | apply below_drew1 | refine below_set ?_ GE175.out | refine below_set ?_ GE176.out | refine below_set ?_ GE181.out | refine below_set ?_ GE182.out | refine below_set ?_ GE190.out | refine below_set ?_ GE214.out) | exact HBD.out)⟩
                      · exact ⟨by first | rfl | (simp [*]; done), by repeat (first | (with_reducible first | exact HBD.out | apply below_alloc | apply pw_below_drewN | apply below_drew1 | refine below_set ?_ GE175.out | refine below_set ?_ GE176.out | refine below_set ?_ GE181.out | refine below_set ?_ GE182.out | refine below_set ?_ GE190.out | refine below_set ?_ GE214.out) | exact HBD.out)⟩
                      · exact ⟨by first | rfl | (simp [*]; done), by repeat (first | (with_reducible first | exact HBD.out | apply below_alloc | apply pw_below_drewN | apply below_drew1 | refine below_set ?_ GE175.out | refine below_set ?_ GE176.out | refine below_set ?_ GE181.out | refine below_set ?_ GE182.out | refine below_set ?_ GE190.out | refine below_set ?_ GE214.out) | exact HBD.out)⟩
                      · exact ⟨by first | rfl | (simp [*]; done), by repeat (first | (with_reducible first | exact HBD.out | apply below_alloc | apply pw_below_drewN | apply below_drew1 | refine below_set ?_ GE175.out | refine below_set ?_ GE176.out | refine below_set ?_ GE181.out | refine below_set ?_ GE182.out | refine below_set ?_ GE190.out | refine below_set ?_ GE214.out) | exact HBD.out)⟩
                    · rw [if_neg c416] at H
                      have c416b0 : decide (a2_3 ≤ a2_1) = false := decide_eq_false c416
                      clear c416
                      obtain rfl := Option.some.inj H
                      go_wp2
                      go_ret
                      exact ⟨by first | rfl | (simp [*]; done), by repeat (first | (with_reducible first | exact HB.out | apply below_alloc | apply pw_below_drewN | apply below_drew1 | refine below_set ?_ GE175.out | refine below_set ?_ GE176.out | refine below_set ?_ GE181.out | refine below_set ?_ GE182.out | refine below_set ?_ GE190.out | refine below_set ?_ GE214.out) | exact HB.out)⟩
                  · rw [if_neg c415] at H
                    have c415b0 : (a2_0 == a2_2) = false := beq_eq_false_iff_ne.mpr c415
                    clear c415
                    obtain rfl := Option.some.inj H
                    go_wp2
                    go_ret
                    exact ⟨by first | rfl | (simp [*]; done), by repeat (first | (with_reducible first | exact HB.out | apply below_alloc | apply pw_below_drewN | apply below_drew1 | refine below_set ?_ GE175.out | refine below_set ?_ GE176.out | refine below_set ?_ GE181.out | refine below_set ?_ GE182.out | refine below_set ?_ GE190.out | refine below_set ?_ GE214.out) | exact HB.out)⟩
  · replace c5 := Bool.eq_false_iff.mpr c5
    subst c5
    have H1 : (some false) = some r := by rw [if_neg (show ¬ (false = true) by decide)] at H; exact H
    exact absurd ((Option.some.inj H1).trans hrt.out) (by decide)
end Go.Proofs.Ytomcjcoehahikaa.MChainSees
