/- Printed by a program of the session's own (wip/myprint.sh): the kit's printer, with texts of the session's own for some functions. -/
import Derived.Test.YthfaacheolhjnaaDoorMStampOrdersx0
import Derived.Test.YthfaacheolhjnaaDoorMStampOrdersx1
import Derived.Test.YthfaacheolhjnaaDoorMStampOrdersx2
import Derived.Test.YthfaacheolhjnaaDoorMStampOrdersx3
namespace Go.Proofs.YthfaacheolhjnaaDoor.MStampOrders
open Go.RowKit Go.Proofs.YthfaacheolhjnaaDoorW.PrintWords Go.Proofs.YthfaacheolhjnaaDoorW.PrintLast Go.Proofs.YthfaacheolhjnaaDoorW.PrintMore
attribute [local go_sem] max2_int min2_int max_two min_two max_three min_three max_four min_four   -- for this text's walks alone
set_option linter.unusedVariables false
set_option linter.unusedSimpArgs false

attribute [local go_sem high] eqA25
/-! ### dovecotelaw01_StampOrders: function 5 -/
mutual
def dovecotelaw01_StampOrders.j0 : Nat → Int → Bool → Int → Int → Int → Int → Int → Int → Int → Int → Option (Bool)
  | 0, _, _, _, _, _, _, _, _, _, _ => none
  | k + 1, x8, x46, x141000, x141001, x142000, x142001, x143000, x143001, x148000, x148001 => if x46 = true then (some false) else ((stamp_Max.f k (([(⟨x141000, x141001⟩ : S25), (⟨x142000, x142001⟩ : S25), (⟨x143000, x143001⟩ : S25)] : List (S25)))).bind fun bt159 => ((dovecoteref01_Max.f x141000 x141001 x142000 x142001).bind fun bt161 => ((dovecoteref01_Max.f bt161.1 bt161.2 x143000 x143001).bind fun bt163 => (if (!(bt159.1 == bt163.1) || (!(bt159.2 == bt163.2))) = true then (dovecotelaw01_StampOrders.j1 k x8 true x141000 x141001 x142000 x142001 x143000 x143001 x148000 x148001) else ((stamp_Max.f k ([] : List (S25))).bind fun bt165 => (if (!(bt165.1 == 0) || (!(bt165.2 == 0))) = true then (dovecotelaw01_StampOrders.j1 k x8 true x141000 x141001 x142000 x142001 x143000 x143001 x148000 x148001) else ((stamp_Max.f k (([(⟨x142000, x142001⟩ : S25)] : List (S25)))).bind fun bt170 => (dovecotelaw01_StampOrders.j1 k x8 (!(bt170.1 == x142000) || (!(bt170.2 == x142001))) x141000 x141001 x142000 x142001 x143000 x143001 x148000 x148001))))))))
def dovecotelaw01_StampOrders.j1 : Nat → Int → Bool → Int → Int → Int → Int → Int → Int → Int → Int → Option (Bool)
  | 0, _, _, _, _, _, _, _, _, _, _ => none
  | k + 1, x8, x69, x141000, x141001, x142000, x142001, x143000, x143001, x148000, x148001 => if x69 = true then (some false) else ((stamp_Less.f k x141000 x141001 x142000 x142001).bind fun t172 => (if t172 = true then ((stamp_Less.f k x142000 x142001 x141000 x141001).bind fun t173 => (if t173 = true then (dovecotelaw01_StampOrders.j2 k x8 true x141000 x141001 x142000 x142001 x148000 x148001) else (if (x141000 == x142000 && (x141001 == x142001)) = true then (dovecotelaw01_StampOrders.j2 k x8 true x141000 x141001 x142000 x142001 x148000 x148001) else ((stamp_Less.f k x141000 x141001 x142000 x142001).bind fun t174 => (if t174 = true then ((stamp_Less.f k x142000 x142001 x143000 x143001).bind fun t175 => (if t175 = true then ((stamp_Less.f k x141000 x141001 x143000 x143001).bind fun t176 => (if t176 = true then ((stamp_Less.f k x141000 x141001 x142000 x142001).bind fun t177 => (if t177 = true then (dovecotelaw01_StampOrders.j2 k x8 false x141000 x141001 x142000 x142001 x148000 x148001) else ((stamp_Less.f k x142000 x142001 x141000 x141001).bind fun t178 => (if t178 = true then (dovecotelaw01_StampOrders.j2 k x8 false x141000 x141001 x142000 x142001 x148000 x148001) else (dovecotelaw01_StampOrders.j2 k x8 (!(x141000 == x142000) || (!(x141001 == x142001))) x141000 x141001 x142000 x142001 x148000 x148001))))) else (dovecotelaw01_StampOrders.j2 k x8 true x141000 x141001 x142000 x142001 x148000 x148001))) else ((stamp_Less.f k x141000 x141001 x142000 x142001).bind fun t179 => (if t179 = true then (dovecotelaw01_StampOrders.j2 k x8 false x141000 x141001 x142000 x142001 x148000 x148001) else ((stamp_Less.f k x142000 x142001 x141000 x141001).bind fun t180 => (if t180 = true then (dovecotelaw01_StampOrders.j2 k x8 false x141000 x141001 x142000 x142001 x148000 x148001) else (dovecotelaw01_StampOrders.j2 k x8 (!(x141000 == x142000) || (!(x141001 == x142001))) x141000 x141001 x142000 x142001 x148000 x148001))))))) else ((stamp_Less.f k x141000 x141001 x142000 x142001).bind fun t181 => (if t181 = true then (dovecotelaw01_StampOrders.j2 k x8 false x141000 x141001 x142000 x142001 x148000 x148001) else ((stamp_Less.f k x142000 x142001 x141000 x141001).bind fun t182 => (if t182 = true then (dovecotelaw01_StampOrders.j2 k x8 false x141000 x141001 x142000 x142001 x148000 x148001) else (dovecotelaw01_StampOrders.j2 k x8 (!(x141000 == x142000) || (!(x141001 == x142001))) x141000 x141001 x142000 x142001 x148000 x148001)))))))))) else ((stamp_Less.f k x141000 x141001 x142000 x142001).bind fun t183 => (if t183 = true then ((stamp_Less.f k x142000 x142001 x143000 x143001).bind fun t184 => (if t184 = true then ((stamp_Less.f k x141000 x141001 x143000 x143001).bind fun t185 => (if t185 = true then ((stamp_Less.f k x141000 x141001 x142000 x142001).bind fun t186 => (if t186 = true then (dovecotelaw01_StampOrders.j2 k x8 false x141000 x141001 x142000 x142001 x148000 x148001) else ((stamp_Less.f k x142000 x142001 x141000 x141001).bind fun t187 => (if t187 = true then (dovecotelaw01_StampOrders.j2 k x8 false x141000 x141001 x142000 x142001 x148000 x148001) else (dovecotelaw01_StampOrders.j2 k x8 (!(x141000 == x142000) || (!(x141001 == x142001))) x141000 x141001 x142000 x142001 x148000 x148001))))) else (dovecotelaw01_StampOrders.j2 k x8 true x141000 x141001 x142000 x142001 x148000 x148001))) else ((stamp_Less.f k x141000 x141001 x142000 x142001).bind fun t188 => (if t188 = true then (dovecotelaw01_StampOrders.j2 k x8 false x141000 x141001 x142000 x142001 x148000 x148001) else ((stamp_Less.f k x142000 x142001 x141000 x141001).bind fun t189 => (if t189 = true then (dovecotelaw01_StampOrders.j2 k x8 false x141000 x141001 x142000 x142001 x148000 x148001) else (dovecotelaw01_StampOrders.j2 k x8 (!(x141000 == x142000) || (!(x141001 == x142001))) x141000 x141001 x142000 x142001 x148000 x148001))))))) else ((stamp_Less.f k x141000 x141001 x142000 x142001).bind fun t190 => (if t190 = true then (dovecotelaw01_StampOrders.j2 k x8 false x141000 x141001 x142000 x142001 x148000 x148001) else ((stamp_Less.f k x142000 x142001 x141000 x141001).bind fun t191 => (if t191 = true then (dovecotelaw01_StampOrders.j2 k x8 false x141000 x141001 x142000 x142001 x148000 x148001) else (dovecotelaw01_StampOrders.j2 k x8 (!(x141000 == x142000) || (!(x141001 == x142001))) x141000 x141001 x142000 x142001 x148000 x148001)))))))))
def dovecotelaw01_StampOrders.j2 : Nat → Int → Bool → Int → Int → Int → Int → Int → Int → Option (Bool)
  | 0, _, _, _, _, _, _, _, _ => none
  | k + 1, x8, x115, x141000, x141001, x142000, x142001, x148000, x148001 => if x115 = true then (some false) else (if x8 = 0 then ((stamp_Less.f k x141000 x141001 x148000 x148001).bind fun t192 => (if t192 = true then ((stamp_Right.f x142000 x142001).bind fun t193 => (if t193 = true then ((stamp_Less.f k x141000 x141001 x142000 x142001).bind fun t194 => (if t194 = true then ((stamp_Less.f k x142000 x142001 x148000 x148001).bind fun t195 => (some (!t195))) else (some (!false)))) else (some (!false)))) else (some false))) else (some true))
end
def dovecotelaw01_StampOrders.f (k : Nat) (a0_0 : Int) (a0_1 : Int) (a1_0 : Int) (a1_1 : Int) (a2_0 : Int) (a2_1 : Int) : Option (Bool) := (dovecotelaw01_awake.f).bind fun t143 => (if t143 = true then ((stamp_Next.f a0_0 a0_1).bind fun bt144 => ((dovecoteref01_Next.f a0_0 a0_1).bind fun bt148 => ((stamp_Right.f a0_0 a0_1).bind fun t152 => ((dovecoteref01_Right.f a0_0 a0_1).bind fun t153 => (if (t152 != t153) = true then (dovecotelaw01_StampOrders.j0 k bt144.2.2 true a0_0 a0_1 a1_0 a1_1 a2_0 a2_1 bt144.1 bt144.2.1) else ((stamp_Less.f k a0_0 a0_1 a1_0 a1_1).bind fun t154 => ((dovecoteref01_Less.f a0_0 a0_1 a1_0 a1_1).bind fun t155 => (if (t154 != t155) = true then (dovecotelaw01_StampOrders.j0 k bt144.2.2 true a0_0 a0_1 a1_0 a1_1 a2_0 a2_1 bt144.1 bt144.2.1) else (if (!(bt144.1 == bt148.1) || (!(bt144.2.1 == bt148.2.1))) = true then (dovecotelaw01_StampOrders.j0 k bt144.2.2 true a0_0 a0_1 a1_0 a1_1 a2_0 a2_1 bt144.1 bt144.2.1) else (dovecotelaw01_StampOrders.j0 k bt144.2.2 (bt144.2.2 != bt148.2.2) a0_0 a0_1 a1_0 a1_1 a2_0 a2_1 bt144.1 bt144.2.1)))))))))) else (some false))
theorem dovecotelaw01_StampOrders.mono_l : ∀ k, (∀ y0 y1 y2 y3 y4 y5 y6 y7 y8 y9, LeO (dovecotelaw01_StampOrders.j0 k y0 y1 y2 y3 y4 y5 y6 y7 y8 y9) (dovecotelaw01_StampOrders.j0 (k + 1) y0 y1 y2 y3 y4 y5 y6 y7 y8 y9)) ∧ (∀ y0 y1 y2 y3 y4 y5 y6 y7 y8 y9, LeO (dovecotelaw01_StampOrders.j1 k y0 y1 y2 y3 y4 y5 y6 y7 y8 y9) (dovecotelaw01_StampOrders.j1 (k + 1) y0 y1 y2 y3 y4 y5 y6 y7 y8 y9)) ∧ (∀ y0 y1 y2 y3 y4 y5 y6 y7, LeO (dovecotelaw01_StampOrders.j2 k y0 y1 y2 y3 y4 y5 y6 y7) (dovecotelaw01_StampOrders.j2 (k + 1) y0 y1 y2 y3 y4 y5 y6 y7))
  | 0 => ⟨fun _ _ _ _ _ _ _ _ _ _ r h => by simp [dovecotelaw01_StampOrders.j0] at h, fun _ _ _ _ _ _ _ _ _ _ r h => by simp [dovecotelaw01_StampOrders.j1] at h, fun _ _ _ _ _ _ _ _ r h => by simp [dovecotelaw01_StampOrders.j2] at h⟩
  | k + 1 => by
    obtain ⟨ih0, ih1, ih2⟩ := dovecotelaw01_StampOrders.mono_l k
    refine ⟨?_, ?_, ?_⟩
    · intro y0 y1 y2 y3 y4 y5 y6 y7 y8 y9
      unfold dovecotelaw01_StampOrders.j0
      repeat' first
      | (with_reducible exact ih0 _ _ _ _ _ _ _ _ _ _)
      | (with_reducible exact ih1 _ _ _ _ _ _ _ _ _ _)
      | (with_reducible exact ih2 _ _ _ _ _ _ _ _)
      | (with_reducible exact stamp_Less.mono _ _ _ _ _)
      | (with_reducible exact stamp_Max.mono _ _)
      | (with_reducible exact LeO.refl _)
      | (with_reducible exact LeO.none _)
      | (with_reducible refine LeO.ite ?_ ?_)
      | (with_reducible refine LeO.bind ?_ (fun _ => ?_))
      | exact ih0 _ _ _ _ _ _ _ _ _ _
      | exact ih1 _ _ _ _ _ _ _ _ _ _
      | exact ih2 _ _ _ _ _ _ _ _
      | exact stamp_Less.mono _ _ _ _ _
      | exact stamp_Max.mono _ _
      | exact LeO.none _
      | refine LeO.ite ?_ ?_
      | refine LeO.bind ?_ (fun _ => ?_)
    · intro y0 y1 y2 y3 y4 y5 y6 y7 y8 y9
      unfold dovecotelaw01_StampOrders.j1
      repeat' first
      | (with_reducible exact ih0 _ _ _ _ _ _ _ _ _ _)
      | (with_reducible exact ih1 _ _ _ _ _ _ _ _ _ _)
      | (with_reducible exact ih2 _ _ _ _ _ _ _ _)
      | (with_reducible exact stamp_Less.mono _ _ _ _ _)
      | (with_reducible exact stamp_Max.mono _ _)
      | (with_reducible exact LeO.refl _)
      | (with_reducible exact LeO.none _)
      | (with_reducible refine LeO.ite ?_ ?_)
      | (with_reducible refine LeO.bind ?_ (fun _ => ?_))
      | exact ih0 _ _ _ _ _ _ _ _ _ _
      | exact ih1 _ _ _ _ _ _ _ _ _ _
      | exact ih2 _ _ _ _ _ _ _ _
      | exact stamp_Less.mono _ _ _ _ _
      | exact stamp_Max.mono _ _
      | exact LeO.none _
      | refine LeO.ite ?_ ?_
      | refine LeO.bind ?_ (fun _ => ?_)
    · intro y0 y1 y2 y3 y4 y5 y6 y7
      unfold dovecotelaw01_StampOrders.j2
      repeat' first
      | (with_reducible exact ih0 _ _ _ _ _ _ _ _ _ _)
      | (with_reducible exact ih1 _ _ _ _ _ _ _ _ _ _)
      | (with_reducible exact ih2 _ _ _ _ _ _ _ _)
      | (with_reducible exact stamp_Less.mono _ _ _ _ _)
      | (with_reducible exact stamp_Max.mono _ _)
      | (with_reducible exact LeO.refl _)
      | (with_reducible exact LeO.none _)
      | (with_reducible refine LeO.ite ?_ ?_)
      | (with_reducible refine LeO.bind ?_ (fun _ => ?_))
      | exact ih0 _ _ _ _ _ _ _ _ _ _
      | exact ih1 _ _ _ _ _ _ _ _ _ _
      | exact ih2 _ _ _ _ _ _ _ _
      | exact stamp_Less.mono _ _ _ _ _
      | exact stamp_Max.mono _ _
      | exact LeO.none _
      | refine LeO.ite ?_ ?_
      | refine LeO.bind ?_ (fun _ => ?_)
theorem dovecotelaw01_StampOrders.mono : ∀ a0 a1 a2 a3 a4 a5 k, LeO (dovecotelaw01_StampOrders.f k a0 a1 a2 a3 a4 a5) (dovecotelaw01_StampOrders.f (k + 1) a0 a1 a2 a3 a4 a5) := by
  intro a0 a1 a2 a3 a4 a5 k
  obtain ⟨ih0, ih1, ih2⟩ := dovecotelaw01_StampOrders.mono_l k
  unfold dovecotelaw01_StampOrders.f
  repeat' first
      | (with_reducible exact ih0 _ _ _ _ _ _ _ _ _ _)
      | (with_reducible exact ih1 _ _ _ _ _ _ _ _ _ _)
      | (with_reducible exact ih2 _ _ _ _ _ _ _ _)
      | (with_reducible exact stamp_Less.mono _ _ _ _ _)
      | (with_reducible exact stamp_Max.mono _ _)
      | (with_reducible exact LeO.refl _)
      | (with_reducible exact LeO.none _)
      | (with_reducible refine LeO.ite ?_ ?_)
      | (with_reducible refine LeO.bind ?_ (fun _ => ?_))
      | exact ih0 _ _ _ _ _ _ _ _ _ _
      | exact ih1 _ _ _ _ _ _ _ _ _ _
      | exact ih2 _ _ _ _ _ _ _ _
      | exact stamp_Less.mono _ _ _ _ _
      | exact stamp_Max.mono _ _
      | exact LeO.none _
      | refine LeO.ite ?_ ?_
      | refine LeO.bind ?_ (fun _ => ?_)
def dovecotelaw01_StampOrders.T5 : Bool × List (List Nat × List Nat) := (true, [([], []), ([0], [0]), ([], []), ([2, 1], [2]), ([1, 3], [1, 3]), ([4, 3], [4]), ([5], [5]), ([5], [5]), ([6, 7, 5, 5], [5, 6, 7]), ([5], [5]), ([5], [5]), ([9, 10, 8, 5], [5, 9, 10]), ([8, 11, 5], [5, 8, 11]), ([5, 12], [5, 12]), ([13, 11], [13]), ([14], [14]), ([14], [14]), ([15, 16, 14], [14, 15, 16]), ([14, 17], [14, 17]), ([18, 14], [18]), ([19], [19]), ([19], [19]), ([20, 21, 19], [19, 20, 21]), ([19, 22], [19, 22])])
def dovecotelaw01_StampOrders.B5 : List Nat := [0, 1, 0, 7, 15, 31, 63, 63, 255, 63, 63, 2047, 4095, 8191, 16383, 32767, 32767, 131071, 262143, 524287, 1048575, 1048575, 4194303, 8388607]
theorem dovecotelaw01_StampOrders.tab5 : rtab .any (opsOf Tryd.f5 5) = dovecotelaw01_StampOrders.T5 := by kernel_rfl
theorem dovecotelaw01_StampOrders.bits5 : waitsOk dovecotelaw01_StampOrders.T5.2 dovecotelaw01_StampOrders.B5 = true := by kernel_rfl
def dovecotelaw01_StampOrders.T7 : Bool × List (List Nat × List Nat) := (true, [([], []), ([], []), ([], []), ([0, 1, 2], [0, 1, 2]), ([3], [3]), ([], []), ([], []), ([5, 6, 4], [5, 6]), ([], []), ([7, 8, 7], [7, 8]), ([4, 9], [4, 9]), ([10, 9], [10]), ([11, 11], [11]), ([11], [11]), ([12, 13, 11], [11, 12, 13]), ([11, 14], [11, 14]), ([15, 12], [15]), ([16], [16]), ([17, 16], [16, 17]), ([18, 16, 16], [16, 18]), ([16], [16]), ([19, 20, 16], [16, 19, 20]), ([16, 21], [16, 21])])
def dovecotelaw01_StampOrders.B7 : List Nat := [0, 0, 0, 7, 15, 0, 0, 127, 0, 511, 1023, 2047, 4095, 4095, 16383, 32767, 65535, 131071, 262143, 524287, 131071, 2097151, 4194303]
theorem dovecotelaw01_StampOrders.tab7 : rtab .any (opsOf Tryd.f5 7) = dovecotelaw01_StampOrders.T7 := by kernel_rfl
theorem dovecotelaw01_StampOrders.bits7 : waitsOk dovecotelaw01_StampOrders.T7.2 dovecotelaw01_StampOrders.B7 = true := by kernel_rfl
theorem dovecotelaw01_StampOrders.j0.no {k : Nat} {y0 : Int} {y2 : Int} {y3 : Int} {y4 : Int} {y5 : Int} {y6 : Int} {y7 : Int} {y8 : Int} {y9 : Int} {r : Bool} (h : dovecotelaw01_StampOrders.j0 k y0 true y2 y3 y4 y5 y6 y7 y8 y9 = some r) (hr : r = true) : False := by
  subst hr
  cases k with
  | zero => simp [dovecotelaw01_StampOrders.j0] at h
  | succ k => simp [dovecotelaw01_StampOrders.j0] at h
theorem dovecotelaw01_StampOrders.j1.no {k : Nat} {y0 : Int} {y2 : Int} {y3 : Int} {y4 : Int} {y5 : Int} {y6 : Int} {y7 : Int} {y8 : Int} {y9 : Int} {r : Bool} (h : dovecotelaw01_StampOrders.j1 k y0 true y2 y3 y4 y5 y6 y7 y8 y9 = some r) (hr : r = true) : False := by
  subst hr
  cases k with
  | zero => simp [dovecotelaw01_StampOrders.j1] at h
  | succ k => simp [dovecotelaw01_StampOrders.j1] at h
theorem dovecotelaw01_StampOrders.j2.no {k : Nat} {y0 : Int} {y2 : Int} {y3 : Int} {y4 : Int} {y5 : Int} {y6 : Int} {y7 : Int} {r : Bool} (h : dovecotelaw01_StampOrders.j2 k y0 true y2 y3 y4 y5 y6 y7 = some r) (hr : r = true) : False := by
  subst hr
  cases k with
  | zero => simp [dovecotelaw01_StampOrders.j2] at h
  | succ k => simp [dovecotelaw01_StampOrders.j2] at h
set_option maxHeartbeats 8000000 in
set_option maxRecDepth 100000 in
theorem dovecotelaw01_StampOrders.callsR (k : Nat) (a0_0 : Int) (a0_1 : Int) (a1_0 : Int) (a1_1 : Int) (a2_0 : Int) (a2_1 : Int) (r : Bool) (w : World) (hrt : Aside0 (r = true)) (h : dovecotelaw01_StampOrders.f k a0_0 a0_1 a1_0 a1_1 a2_0 a2_1 = some r) :
    Calls Tryd.prog 5 #[.agg #[.int .u64 a0_0, .int .u32 a0_1], .agg #[.int .u64 a1_0, .int .u32 a1_1], .agg #[.int .u64 a2_0, .int .u32 a2_1]] w fun e w' => e = .returned (.bool r) ∧ Below w.heap.size w w' := by
  have hu25 := Tryd.underlying25
  have HB := Aside0.mk (Below.refl w.heap.size w)
  have H : ((dovecotelaw01_awake.f).bind fun t143 => (if t143 = true then ((stamp_Next.f a0_0 a0_1).bind fun bt144 => ((dovecoteref01_Next.f a0_0 a0_1).bind fun bt148 => ((stamp_Right.f a0_0 a0_1).bind fun t152 => ((dovecoteref01_Right.f a0_0 a0_1).bind fun t153 => (if (t152 != t153) = true then (dovecotelaw01_StampOrders.j0 k bt144.2.2 true a0_0 a0_1 a1_0 a1_1 a2_0 a2_1 bt144.1 bt144.2.1) else ((stamp_Less.f k a0_0 a0_1 a1_0 a1_1).bind fun t154 => ((dovecoteref01_Less.f a0_0 a0_1 a1_0 a1_1).bind fun t155 => (if (t154 != t155) = true then (dovecotelaw01_StampOrders.j0 k bt144.2.2 true a0_0 a0_1 a1_0 a1_1 a2_0 a2_1 bt144.1 bt144.2.1) else (if (!(bt144.1 == bt148.1) || (!(bt144.2.1 == bt148.2.1))) = true then (dovecotelaw01_StampOrders.j0 k bt144.2.2 true a0_0 a0_1 a1_0 a1_1 a2_0 a2_1 bt144.1 bt144.2.1) else (dovecotelaw01_StampOrders.j0 k bt144.2.2 (bt144.2.2 != bt148.2.2) a0_0 a0_1 a1_0 a1_1 a2_0 a2_1 bt144.1 bt144.2.1)))))))))) else (some false))) = some r := h
  clear h
  replace H := Option.bind_eq_some_iff.mp H
  obtain ⟨t143, A40, H⟩ := H
  replace H : (if t143 = true then ((stamp_Next.f a0_0 a0_1).bind fun bt144 => ((dovecoteref01_Next.f a0_0 a0_1).bind fun bt148 => ((stamp_Right.f a0_0 a0_1).bind fun t152 => ((dovecoteref01_Right.f a0_0 a0_1).bind fun t153 => (if (t152 != t153) = true then (dovecotelaw01_StampOrders.j0 k bt144.2.2 true a0_0 a0_1 a1_0 a1_1 a2_0 a2_1 bt144.1 bt144.2.1) else ((stamp_Less.f k a0_0 a0_1 a1_0 a1_1).bind fun t154 => ((dovecoteref01_Less.f a0_0 a0_1 a1_0 a1_1).bind fun t155 => (if (t154 != t155) = true then (dovecotelaw01_StampOrders.j0 k bt144.2.2 true a0_0 a0_1 a1_0 a1_1 a2_0 a2_1 bt144.1 bt144.2.1) else (if (!(bt144.1 == bt148.1) || (!(bt144.2.1 == bt148.2.1))) = true then (dovecotelaw01_StampOrders.j0 k bt144.2.2 true a0_0 a0_1 a1_0 a1_1 a2_0 a2_1 bt144.1 bt144.2.1) else (dovecotelaw01_StampOrders.j0 k bt144.2.2 (bt144.2.2 != bt148.2.2) a0_0 a0_1 a1_0 a1_1 a2_0 a2_1 bt144.1 bt144.2.1)))))))))) else (some false)) = some r := H
  have A4 := Aside0.mk A40
  clear A40
  by_cases c5 : t143 = true
  · subst c5
    have H1 : ((stamp_Next.f a0_0 a0_1).bind fun bt144 => ((dovecoteref01_Next.f a0_0 a0_1).bind fun bt148 => ((stamp_Right.f a0_0 a0_1).bind fun t152 => ((dovecoteref01_Right.f a0_0 a0_1).bind fun t153 => (if (t152 != t153) = true then (dovecotelaw01_StampOrders.j0 k bt144.2.2 true a0_0 a0_1 a1_0 a1_1 a2_0 a2_1 bt144.1 bt144.2.1) else ((stamp_Less.f k a0_0 a0_1 a1_0 a1_1).bind fun t154 => ((dovecoteref01_Less.f a0_0 a0_1 a1_0 a1_1).bind fun t155 => (if (t154 != t155) = true then (dovecotelaw01_StampOrders.j0 k bt144.2.2 true a0_0 a0_1 a1_0 a1_1 a2_0 a2_1 bt144.1 bt144.2.1) else (if (!(bt144.1 == bt148.1) || (!(bt144.2.1 == bt148.2.1))) = true then (dovecotelaw01_StampOrders.j0 k bt144.2.2 true a0_0 a0_1 a1_0 a1_1 a2_0 a2_1 bt144.1 bt144.2.1) else (dovecotelaw01_StampOrders.j0 k bt144.2.2 (bt144.2.2 != bt148.2.2) a0_0 a0_1 a1_0 a1_1 a2_0 a2_1 bt144.1 bt144.2.1)))))))))) = some r := by rw [if_pos rfl] at H; exact H
    clear H
    have H := H1
    clear H1
    replace H := Option.bind_eq_some_iff.mp H
    obtain ⟨⟨t144, t145, t146⟩, A60, H⟩ := H
    replace H : ((dovecoteref01_Next.f a0_0 a0_1).bind fun bt148 => ((stamp_Right.f a0_0 a0_1).bind fun t152 => ((dovecoteref01_Right.f a0_0 a0_1).bind fun t153 => (if (t152 != t153) = true then (dovecotelaw01_StampOrders.j0 k t146 true a0_0 a0_1 a1_0 a1_1 a2_0 a2_1 t144 t145) else ((stamp_Less.f k a0_0 a0_1 a1_0 a1_1).bind fun t154 => ((dovecoteref01_Less.f a0_0 a0_1 a1_0 a1_1).bind fun t155 => (if (t154 != t155) = true then (dovecotelaw01_StampOrders.j0 k t146 true a0_0 a0_1 a1_0 a1_1 a2_0 a2_1 t144 t145) else (if (!(t144 == bt148.1) || (!(t145 == bt148.2.1))) = true then (dovecotelaw01_StampOrders.j0 k t146 true a0_0 a0_1 a1_0 a1_1 a2_0 a2_1 t144 t145) else (dovecotelaw01_StampOrders.j0 k t146 (t146 != bt148.2.2) a0_0 a0_1 a1_0 a1_1 a2_0 a2_1 t144 t145))))))))) = some r := H
    have A6 := Aside0.mk A60
    clear A60
    replace H := Option.bind_eq_some_iff.mp H
    obtain ⟨⟨t148, t149, t150⟩, A70, H⟩ := H
    replace H : ((stamp_Right.f a0_0 a0_1).bind fun t152 => ((dovecoteref01_Right.f a0_0 a0_1).bind fun t153 => (if (t152 != t153) = true then (dovecotelaw01_StampOrders.j0 k t146 true a0_0 a0_1 a1_0 a1_1 a2_0 a2_1 t144 t145) else ((stamp_Less.f k a0_0 a0_1 a1_0 a1_1).bind fun t154 => ((dovecoteref01_Less.f a0_0 a0_1 a1_0 a1_1).bind fun t155 => (if (t154 != t155) = true then (dovecotelaw01_StampOrders.j0 k t146 true a0_0 a0_1 a1_0 a1_1 a2_0 a2_1 t144 t145) else (if (!(t144 == t148) || (!(t145 == t149))) = true then (dovecotelaw01_StampOrders.j0 k t146 true a0_0 a0_1 a1_0 a1_1 a2_0 a2_1 t144 t145) else (dovecotelaw01_StampOrders.j0 k t146 (t146 != t150) a0_0 a0_1 a1_0 a1_1 a2_0 a2_1 t144 t145)))))))) = some r := H
    have A7 := Aside0.mk A70
    clear A70
    have HC8 := Aside0.mk H
    clear H
    go_enter Tryd.func5, Tryd.ntmps5
    go_upto_region 5 with (first | ((with_reducible refine gate_dst (N := 3) rfl ?_); (try (refine gate_guard (by rfl) ?_; dsimp only)); refine box_event ?hg (N := 3) ?hd (cs := #[.int .u64 a0_0, .int .u32 a0_1]) (t := 25) ?hr ?_; (case hd => rfl); (case hg => rfl); (case hr => first | (go_simp; done) | (go_simp; rfl)); intro gb140 hg w9 hbox hb; have n0_ := Aside0.mk (below_step (by repeat (first | (with_reducible first | exact HB.out | apply below_alloc | apply pw_below_drewN | apply below_drew1) | exact HB.out)) hb); have n1_ := Aside0.mk (hbox); have n2_ := Aside0.mk ((by rw [hg]; exact (below_size (by repeat (first | (with_reducible first | exact HB.out | apply below_alloc | apply pw_below_drewN | apply below_drew1) | exact HB.out))) : w.heap.size ≤ gb140)); have n3_ := Aside0.mk ((by rw [hg]; exact (below_size (by repeat (first | (with_reducible first | exact HB.out | apply below_alloc | apply pw_below_drewN | apply below_drew1) | exact HB.out))) : w.heap.size ≤ gb140)); clear HB; have HB := n0_; have BK140 := n1_; have GW140 := n2_; have GE140 := n3_; clear n0_ n1_ n2_ n3_; clear hb hbox hg) | ((with_reducible refine gate_dst (N := 4) rfl ?_); (try (refine gate_guard (by rfl) ?_; dsimp only)); refine box_event ?hg (N := 4) ?hd (cs := #[.int .u64 a1_0, .int .u32 a1_1]) (t := 25) ?hr ?_; (case hd => rfl); (case hg => rfl); (case hr => first | (go_simp; done) | (go_simp; rfl)); intro gb141 hg w10 hbox hb; have n0_ := Aside0.mk (blk_below (g := gb140) (o := .cells #[.int .u64 a0_0, .int .u32 a0_1] 25 (0, 0)) (by (with_reducible repeat (first | refine blk_drewN ?_ _ | refine blk_drew ?_ | refine blk_alloc ?_ _)); exact BK140.out) hb); have n1_ := Aside0.mk (below_step (by repeat (first | (with_reducible first | exact HB.out | apply below_alloc | apply pw_below_drewN | apply below_drew1 | refine below_set ?_ GE140.out) | exact HB.out)) hb); have n2_ := Aside0.mk (hbox); have n3_ := Aside0.mk ((by rw [hg]; exact (below_size (by repeat (first | (with_reducible first | exact HB.out | apply below_alloc | apply pw_below_drewN | apply below_drew1 | refine below_set ?_ GE140.out) | exact HB.out))) : w.heap.size ≤ gb141)); have n4_ := Aside0.mk ((by rw [hg]; exact (below_size (by repeat (first | (with_reducible first | exact HB.out | apply below_alloc | apply pw_below_drewN | apply below_drew1 | refine below_set ?_ GE140.out) | exact HB.out))) : w.heap.size ≤ gb141)); have n5_ := Aside0.mk ((by rw [hg]; exact Nat.ne_of_lt (blk_lt (g := gb140) (o := .cells #[.int .u64 a0_0, .int .u32 a0_1] 25 (0, 0)) (by (with_reducible repeat (first | refine blk_drewN ?_ _ | refine blk_drew ?_ | refine blk_alloc ?_ _)); exact BK140.out)) : gb140 ≠ gb141)); have n6_ := Aside0.mk ((by rw [hg]; exact Nat.ne_of_gt (blk_lt (g := gb140) (o := .cells #[.int .u64 a0_0, .int .u32 a0_1] 25 (0, 0)) (by (with_reducible repeat (first | refine blk_drewN ?_ _ | refine blk_drew ?_ | refine blk_alloc ?_ _)); exact BK140.out)) : gb141 ≠ gb140)); clear BK140; clear HB; have BK140 := n0_; have HB := n1_; have BK141 := n2_; have GW141 := n3_; have GE141 := n4_; have NB140_141 := n5_; have NB141_140 := n6_; clear n0_ n1_ n2_ n3_ n4_ n5_ n6_; clear hb hbox hg) | ((with_reducible refine gate_dst (N := 5) rfl ?_); (try (refine gate_guard (by rfl) ?_; dsimp only)); refine box_event ?hg (N := 5) ?hd (cs := #[.int .u64 a2_0, .int .u32 a2_1]) (t := 25) ?hr ?_; (case hd => rfl); (case hg => rfl); (case hr => first | (go_simp; done) | (go_simp; rfl)); intro gb142 hg w11 hbox hb; have n0_ := Aside0.mk (blk_below (g := gb140) (o := .cells #[.int .u64 a0_0, .int .u32 a0_1] 25 (0, 0)) (by (with_reducible repeat (first | refine blk_drewN ?_ _ | refine blk_drew ?_ | refine blk_alloc ?_ _)); exact BK140.out) hb); have n1_ := Aside0.mk (blk_below (g := gb141) (o := .cells #[.int .u64 a1_0, .int .u32 a1_1] 25 (0, 0)) (by (with_reducible repeat (first | refine blk_drewN ?_ _ | refine blk_drew ?_ | refine blk_alloc ?_ _)); exact BK141.out) hb); have n2_ := Aside0.mk (below_step (by repeat (first | (with_reducible first | exact HB.out | apply below_alloc | apply pw_below_drewN | apply below_drew1 | refine below_set ?_ GE140.out | refine below_set ?_ GE141.out) | exact HB.out)) hb); have n3_ := Aside0.mk (hbox); have n4_ := Aside0.mk ((by rw [hg]; exact (below_size (by repeat (first | (with_reducible first | exact HB.out | apply below_alloc | apply pw_below_drewN | apply below_drew1 | refine below_set ?_ GE140.out | refine below_set ?_ GE141.out) | exact HB.out))) : w.heap.size ≤ gb142)); have n5_ := Aside0.mk ((by rw [hg]; exact (below_size (by repeat (first | (with_reducible first | exact HB.out | apply below_alloc | apply pw_below_drewN | apply below_drew1 | refine below_set ?_ GE140.out | refine below_set ?_ GE141.out) | exact HB.out))) : w.heap.size ≤ gb142)); have n6_ := Aside0.mk ((by rw [hg]; exact Nat.ne_of_lt (blk_lt (g := gb140) (o := .cells #[.int .u64 a0_0, .int .u32 a0_1] 25 (0, 0)) (by (with_reducible repeat (first | refine blk_drewN ?_ _ | refine blk_drew ?_ | refine blk_alloc ?_ _)); exact BK140.out)) : gb140 ≠ gb142)); have n7_ := Aside0.mk ((by rw [hg]; exact Nat.ne_of_gt (blk_lt (g := gb140) (o := .cells #[.int .u64 a0_0, .int .u32 a0_1] 25 (0, 0)) (by (with_reducible repeat (first | refine blk_drewN ?_ _ | refine blk_drew ?_ | refine blk_alloc ?_ _)); exact BK140.out)) : gb142 ≠ gb140)); have n8_ := Aside0.mk ((by rw [hg]; exact Nat.ne_of_lt (blk_lt (g := gb141) (o := .cells #[.int .u64 a1_0, .int .u32 a1_1] 25 (0, 0)) (by (with_reducible repeat (first | refine blk_drewN ?_ _ | refine blk_drew ?_ | refine blk_alloc ?_ _)); exact BK141.out)) : gb141 ≠ gb142)); have n9_ := Aside0.mk ((by rw [hg]; exact Nat.ne_of_gt (blk_lt (g := gb141) (o := .cells #[.int .u64 a1_0, .int .u32 a1_1] 25 (0, 0)) (by (with_reducible repeat (first | refine blk_drewN ?_ _ | refine blk_drew ?_ | refine blk_alloc ?_ _)); exact BK141.out)) : gb142 ≠ gb141)); clear BK140; clear BK141; clear HB; have BK140 := n0_; have BK141 := n1_; have HB := n2_; have BK142 := n3_; have GW142 := n4_; have GE142 := n5_; have NB140_142 := n6_; have NB142_140 := n7_; have NB141_142 := n8_; have NB142_141 := n9_; clear n0_ n1_ n2_ n3_ n4_ n5_ n6_ n7_ n8_ n9_; clear hb hbox hg) | ((with_reducible refine gate_callee (f := 7) rfl ?_); refine goesL_ (some 11) rfl rfl Tryd.func7 (by kernel_rfl) rfl #[] rfl (by (try simp only [List.map_toArray, List.map_cons, List.map_nil]); first | done | rfl | (simp only [List.length_drop, List.length_take]; rfl)) ?_; (with_reducible refine (dovecotelaw01_awake.calls  true _ A4.out).mono ?_); rintro e w12 ⟨rfl, hb⟩; refine ⟨_, rfl, ?_⟩; have n0_ := Aside0.mk (blk_below (g := gb140) (o := .cells #[.int .u64 a0_0, .int .u32 a0_1] 25 (0, 0)) (by (with_reducible repeat (first | refine blk_drewN ?_ _ | refine blk_drew ?_ | refine blk_alloc ?_ _)); exact BK140.out) hb); have n1_ := Aside0.mk (blk_below (g := gb141) (o := .cells #[.int .u64 a1_0, .int .u32 a1_1] 25 (0, 0)) (by (with_reducible repeat (first | refine blk_drewN ?_ _ | refine blk_drew ?_ | refine blk_alloc ?_ _)); exact BK141.out) hb); have n2_ := Aside0.mk (blk_below (g := gb142) (o := .cells #[.int .u64 a2_0, .int .u32 a2_1] 25 (0, 0)) (by (with_reducible repeat (first | refine blk_drewN ?_ _ | refine blk_drew ?_ | refine blk_alloc ?_ _)); exact BK142.out) hb); have n3_ := Aside0.mk (below_step (by repeat (first | (with_reducible first | exact HB.out | apply below_alloc | apply pw_below_drewN | apply below_drew1 | refine below_set ?_ GE140.out | refine below_set ?_ GE141.out | refine below_set ?_ GE142.out) | exact HB.out)) hb); clear BK140; clear BK141; clear BK142; clear HB; have BK140 := n0_; have BK141 := n1_; have BK142 := n2_; have HB := n3_; clear n0_ n1_ n2_ n3_; (try clear hb); (try clear hb2); (try clear hk); (try clear hi); have hnb13 := NB140_141.out; have hnc13 := NB141_140.out; have hnb14 := NB140_142.out; have hnc14 := NB142_140.out; have hcz15_0 : w12.cell? ⟨gb140, 0, none⟩ = some (.int .u64 a0_0) := (blk_cell BK140.out 0).trans rfl; have hcz15_1 : w12.cell? ⟨gb140, 1, none⟩ = some (.int .u32 a0_1) := (blk_cell BK140.out 1).trans rfl; have hfz15_0 := blk_frozen BK140.out 0; have hfz15_1 := blk_frozen BK140.out 1) | ((with_reducible refine gate_callee (f := 9) rfl ?_); refine goesL_ (some 15) rfl rfl Tryd.func9 (by kernel_rfl) rfl #[.agg #[.int .u64 a0_0, .int .u32 a0_1]] rfl (by (try simp only [List.map_toArray, List.map_cons, List.map_nil]); first | done | rfl | (simp only [List.length_drop, List.length_take]; rfl)) ?_; (with_reducible refine (stamp_Next.calls a0_0 a0_1 t144 t145 t146 _ A6.out).mono ?_); rintro e w16 ⟨rfl, hb⟩; refine ⟨_, rfl, ?_⟩; have n0_ := Aside0.mk (blk_below (g := gb140) (o := .cells #[.int .u64 a0_0, .int .u32 a0_1] 25 (0, 0)) (by (with_reducible repeat (first | refine blk_drewN ?_ _ | refine blk_drew ?_ | refine blk_alloc ?_ _)); exact BK140.out) hb); have n1_ := Aside0.mk (blk_below (g := gb141) (o := .cells #[.int .u64 a1_0, .int .u32 a1_1] 25 (0, 0)) (by (with_reducible repeat (first | refine blk_drewN ?_ _ | refine blk_drew ?_ | refine blk_alloc ?_ _)); exact BK141.out) hb); have n2_ := Aside0.mk (blk_below (g := gb142) (o := .cells #[.int .u64 a2_0, .int .u32 a2_1] 25 (0, 0)) (by (with_reducible repeat (first | refine blk_drewN ?_ _ | refine blk_drew ?_ | refine blk_alloc ?_ _)); exact BK142.out) hb); have n3_ := Aside0.mk (below_step (by repeat (first | (with_reducible first | exact HB.out | apply below_alloc | apply pw_below_drewN | apply below_drew1 | refine below_set ?_ GE140.out | refine below_set ?_ GE141.out | refine below_set ?_ GE142.out) | exact HB.out)) hb); clear BK140; clear BK141; clear BK142; clear HB; have BK140 := n0_; have BK141 := n1_; have BK142 := n2_; have HB := n3_; clear n0_ n1_ n2_ n3_; (try clear hb); (try clear hb2); (try clear hk); (try clear hi)) | ((with_reducible refine gate_dst (N := 7) rfl ?_); (try (refine gate_guard (by rfl) ?_; dsimp only)); refine box_event ?hg (N := 7) ?hd (cs := #[.int .u64 0, .int .u32 0]) (t := 25) ?hr ?_; (case hd => rfl); (case hg => rfl); (case hr => first | (go_simp; done) | (go_simp; rfl)); intro gb147 hg w17 hbox hb; have n0_ := Aside0.mk (blk_below (g := gb140) (o := .cells #[.int .u64 a0_0, .int .u32 a0_1] 25 (0, 0)) (by (with_reducible repeat (first | refine blk_drewN ?_ _ | refine blk_drew ?_ | refine blk_alloc ?_ _)); exact BK140.out) hb); have n1_ := Aside0.mk (blk_below (g := gb141) (o := .cells #[.int .u64 a1_0, .int .u32 a1_1] 25 (0, 0)) (by (with_reducible repeat (first | refine blk_drewN ?_ _ | refine blk_drew ?_ | refine blk_alloc ?_ _)); exact BK141.out) hb); have n2_ := Aside0.mk (blk_below (g := gb142) (o := .cells #[.int .u64 a2_0, .int .u32 a2_1] 25 (0, 0)) (by (with_reducible repeat (first | refine blk_drewN ?_ _ | refine blk_drew ?_ | refine blk_alloc ?_ _)); exact BK142.out) hb); have n3_ := Aside0.mk (below_step (by repeat (first | (with_reducible first | exact HB.out | apply below_alloc | apply pw_below_drewN | apply below_drew1 | refine below_set ?_ GE140.out | refine below_set ?_ GE141.out | refine below_set ?_ GE142.out) | exact HB.out)) hb); have n4_ := Aside0.mk (hbox); have n5_ := Aside0.mk ((by rw [hg]; exact (below_size (by repeat (first | (with_reducible first | exact HB.out | apply below_alloc | apply pw_below_drewN | apply below_drew1 | refine below_set ?_ GE140.out | refine below_set ?_ GE141.out | refine below_set ?_ GE142.out) | exact HB.out))) : w.heap.size ≤ gb147)); have n6_ := Aside0.mk ((by rw [hg]; exact (below_size (by repeat (first | (with_reducible first | exact HB.out | apply below_alloc | apply pw_below_drewN | apply below_drew1 | refine below_set ?_ GE140.out | refine below_set ?_ GE141.out | refine below_set ?_ GE142.out) | exact HB.out))) : w.heap.size ≤ gb147)); have n7_ := Aside0.mk ((by rw [hg]; exact Nat.ne_of_lt (blk_lt (g := gb140) (o := .cells #[.int .u64 a0_0, .int .u32 a0_1] 25 (0, 0)) (by (with_reducible repeat (first | refine blk_drewN ?_ _ | refine blk_drew ?_ | refine blk_alloc ?_ _)); exact BK140.out)) : gb140 ≠ gb147)); have n8_ := Aside0.mk ((by rw [hg]; exact Nat.ne_of_gt (blk_lt (g := gb140) (o := .cells #[.int .u64 a0_0, .int .u32 a0_1] 25 (0, 0)) (by (with_reducible repeat (first | refine blk_drewN ?_ _ | refine blk_drew ?_ | refine blk_alloc ?_ _)); exact BK140.out)) : gb147 ≠ gb140)); have n9_ := Aside0.mk ((by rw [hg]; exact Nat.ne_of_lt (blk_lt (g := gb141) (o := .cells #[.int .u64 a1_0, .int .u32 a1_1] 25 (0, 0)) (by (with_reducible repeat (first | refine blk_drewN ?_ _ | refine blk_drew ?_ | refine blk_alloc ?_ _)); exact BK141.out)) : gb141 ≠ gb147)); have n10_ := Aside0.mk ((by rw [hg]; exact Nat.ne_of_gt (blk_lt (g := gb141) (o := .cells #[.int .u64 a1_0, .int .u32 a1_1] 25 (0, 0)) (by (with_reducible repeat (first | refine blk_drewN ?_ _ | refine blk_drew ?_ | refine blk_alloc ?_ _)); exact BK141.out)) : gb147 ≠ gb141)); have n11_ := Aside0.mk ((by rw [hg]; exact Nat.ne_of_lt (blk_lt (g := gb142) (o := .cells #[.int .u64 a2_0, .int .u32 a2_1] 25 (0, 0)) (by (with_reducible repeat (first | refine blk_drewN ?_ _ | refine blk_drew ?_ | refine blk_alloc ?_ _)); exact BK142.out)) : gb142 ≠ gb147)); have n12_ := Aside0.mk ((by rw [hg]; exact Nat.ne_of_gt (blk_lt (g := gb142) (o := .cells #[.int .u64 a2_0, .int .u32 a2_1] 25 (0, 0)) (by (with_reducible repeat (first | refine blk_drewN ?_ _ | refine blk_drew ?_ | refine blk_alloc ?_ _)); exact BK142.out)) : gb147 ≠ gb142)); clear BK140; clear BK141; clear BK142; clear HB; have BK140 := n0_; have BK141 := n1_; have BK142 := n2_; have HB := n3_; have BK147 := n4_; have GW147 := n5_; have GE147 := n6_; have NB140_147 := n7_; have NB147_140 := n8_; have NB141_147 := n9_; have NB147_141 := n10_; have NB142_147 := n11_; have NB147_142 := n12_; clear n0_ n1_ n2_ n3_ n4_ n5_ n6_ n7_ n8_ n9_ n10_ n11_ n12_; clear hb hbox hg; have hnb18 := NB147_140.out; have hnc18 := NB140_147.out; have hnb19 := NB147_141.out; have hnc19 := NB141_147.out; have hnb20 := NB147_142.out; have hnc20 := NB142_147.out; have hcz21_0 : w17.cell? ⟨gb147, 0, none⟩ = some (.int .u64 0) := (blk_cell BK147.out 0).trans rfl; have hcz21_1 : w17.cell? ⟨gb147, 1, none⟩ = some (.int .u32 0) := (blk_cell BK147.out 1).trans rfl; have hfz21_0 := blk_frozen BK147.out 0; have hfz21_1 := blk_frozen BK147.out 1; have hcz22_0 : w17.cell? ⟨gb140, 0, none⟩ = some (.int .u64 a0_0) := (blk_cell BK140.out 0).trans rfl; have hcz22_1 : w17.cell? ⟨gb140, 1, none⟩ = some (.int .u32 a0_1) := (blk_cell BK140.out 1).trans rfl; have hfz22_0 := blk_frozen BK140.out 0; have hfz22_1 := blk_frozen BK140.out 1) | ((with_reducible refine gate_callee (f := 12) rfl ?_); refine goesL_ (some 20) rfl rfl Tryd.func12 (by kernel_rfl) rfl #[.agg #[.int .u64 a0_0, .int .u32 a0_1]] rfl (by (try simp only [List.map_toArray, List.map_cons, List.map_nil]); first | done | rfl | (simp only [List.length_drop, List.length_take]; rfl)) ?_; (with_reducible refine (dovecoteref01_Next.calls a0_0 a0_1 t148 t149 t150 _ A7.out).mono ?_); rintro e w23 ⟨rfl, hb⟩; refine ⟨_, rfl, ?_⟩; have n0_ := Aside0.mk (blk_below (g := gb140) (o := .cells #[.int .u64 a0_0, .int .u32 a0_1] 25 (0, 0)) (by (with_reducible repeat (first | refine blk_drewN ?_ _ | refine blk_drew ?_ | refine blk_alloc ?_ _)); refine blk_far ?_ NB140_147.out _; (with_reducible repeat (first | refine blk_drewN ?_ _ | refine blk_drew ?_ | refine blk_alloc ?_ _)); refine blk_far ?_ NB140_147.out _; (with_reducible repeat (first | refine blk_drewN ?_ _ | refine blk_drew ?_ | refine blk_alloc ?_ _)); exact BK140.out) hb); have n1_ := Aside0.mk (blk_below (g := gb141) (o := .cells #[.int .u64 a1_0, .int .u32 a1_1] 25 (0, 0)) (by (with_reducible repeat (first | refine blk_drewN ?_ _ | refine blk_drew ?_ | refine blk_alloc ?_ _)); refine blk_far ?_ NB141_147.out _; (with_reducible repeat (first | refine blk_drewN ?_ _ | refine blk_drew ?_ | refine blk_alloc ?_ _)); refine blk_far ?_ NB141_147.out _; (with_reducible repeat (first | refine blk_drewN ?_ _ | refine blk_drew ?_ | refine blk_alloc ?_ _)); exact BK141.out) hb); have n2_ := Aside0.mk (blk_below (g := gb142) (o := .cells #[.int .u64 a2_0, .int .u32 a2_1] 25 (0, 0)) (by (with_reducible repeat (first | refine blk_drewN ?_ _ | refine blk_drew ?_ | refine blk_alloc ?_ _)); refine blk_far ?_ NB142_147.out _; (with_reducible repeat (first | refine blk_drewN ?_ _ | refine blk_drew ?_ | refine blk_alloc ?_ _)); refine blk_far ?_ NB142_147.out _; (with_reducible repeat (first | refine blk_drewN ?_ _ | refine blk_drew ?_ | refine blk_alloc ?_ _)); exact BK142.out) hb); have n3_ := Aside0.mk (blk_below (g := gb147) (o := .cells #[.int .u64 t144, .int .u32 t145] 25 (0, 0)) (by (with_reducible repeat (first | refine blk_drewN ?_ _ | refine blk_drew ?_ | refine blk_alloc ?_ _)); refine blk_put (cs := #[.int .u64 t144, .int .u32 0]) ?_ 1 _ rfl; (with_reducible repeat (first | refine blk_drewN ?_ _ | refine blk_drew ?_ | refine blk_alloc ?_ _)); refine blk_put (cs := #[.int .u64 0, .int .u32 0]) ?_ 0 _ rfl; (with_reducible repeat (first | refine blk_drewN ?_ _ | refine blk_drew ?_ | refine blk_alloc ?_ _)); exact BK147.out) hb); have n4_ := Aside0.mk (below_step (by repeat (first | (with_reducible first | exact HB.out | apply below_alloc | apply pw_below_drewN | apply below_drew1 | refine below_set ?_ GE140.out | refine below_set ?_ GE141.out | refine below_set ?_ GE142.out | refine below_set ?_ GE147.out) | exact HB.out)) hb); clear BK140; clear BK141; clear BK142; clear BK147; clear HB; have BK140 := n0_; have BK141 := n1_; have BK142 := n2_; have BK147 := n3_; have HB := n4_; clear n0_ n1_ n2_ n3_ n4_; (try clear hb); (try clear hb2); (try clear hk); (try clear hi)) | ((with_reducible refine gate_dst (N := 9) rfl ?_); (try (refine gate_guard (by rfl) ?_; dsimp only)); refine box_event ?hg (N := 9) ?hd (cs := #[.int .u64 0, .int .u32 0]) (t := 25) ?hr ?_; (case hd => rfl); (case hg => rfl); (case hr => first | (go_simp; done) | (go_simp; rfl)); intro gb151 hg w24 hbox hb; have n0_ := Aside0.mk (blk_below (g := gb140) (o := .cells #[.int .u64 a0_0, .int .u32 a0_1] 25 (0, 0)) (by (with_reducible repeat (first | refine blk_drewN ?_ _ | refine blk_drew ?_ | refine blk_alloc ?_ _)); exact BK140.out) hb); have n1_ := Aside0.mk (blk_below (g := gb141) (o := .cells #[.int .u64 a1_0, .int .u32 a1_1] 25 (0, 0)) (by (with_reducible repeat (first | refine blk_drewN ?_ _ | refine blk_drew ?_ | refine blk_alloc ?_ _)); exact BK141.out) hb); have n2_ := Aside0.mk (blk_below (g := gb142) (o := .cells #[.int .u64 a2_0, .int .u32 a2_1] 25 (0, 0)) (by (with_reducible repeat (first | refine blk_drewN ?_ _ | refine blk_drew ?_ | refine blk_alloc ?_ _)); exact BK142.out) hb); have n3_ := Aside0.mk (blk_below (g := gb147) (o := .cells #[.int .u64 t144, .int .u32 t145] 25 (0, 0)) (by (with_reducible repeat (first | refine blk_drewN ?_ _ | refine blk_drew ?_ | refine blk_alloc ?_ _)); exact BK147.out) hb); have n4_ := Aside0.mk (below_step (by repeat (first | (with_reducible first | exact HB.out | apply below_alloc | apply pw_below_drewN | apply below_drew1 | refine below_set ?_ GE140.out | refine below_set ?_ GE141.out | refine below_set ?_ GE142.out | refine below_set ?_ GE147.out) | exact HB.out)) hb); have n5_ := Aside0.mk (hbox); have n6_ := Aside0.mk ((by rw [hg]; exact (below_size (by repeat (first | (with_reducible first | exact HB.out | apply below_alloc | apply pw_below_drewN | apply below_drew1 | refine below_set ?_ GE140.out | refine below_set ?_ GE141.out | refine below_set ?_ GE142.out | refine below_set ?_ GE147.out) | exact HB.out))) : w.heap.size ≤ gb151)); have n7_ := Aside0.mk ((by rw [hg]; exact (below_size (by repeat (first | (with_reducible first | exact HB.out | apply below_alloc | apply pw_below_drewN | apply below_drew1 | refine below_set ?_ GE140.out | refine below_set ?_ GE141.out | refine below_set ?_ GE142.out | refine below_set ?_ GE147.out) | exact HB.out))) : w.heap.size ≤ gb151)); have n8_ := Aside0.mk ((by rw [hg]; exact Nat.ne_of_lt (blk_lt (g := gb140) (o := .cells #[.int .u64 a0_0, .int .u32 a0_1] 25 (0, 0)) (by (with_reducible repeat (first | refine blk_drewN ?_ _ | refine blk_drew ?_ | refine blk_alloc ?_ _)); exact BK140.out)) : gb140 ≠ gb151)); have n9_ := Aside0.mk ((by rw [hg]; exact Nat.ne_of_gt (blk_lt (g := gb140) (o := .cells #[.int .u64 a0_0, .int .u32 a0_1] 25 (0, 0)) (by (with_reducible repeat (first | refine blk_drewN ?_ _ | refine blk_drew ?_ | refine blk_alloc ?_ _)); exact BK140.out)) : gb151 ≠ gb140)); have n10_ := Aside0.mk ((by rw [hg]; exact Nat.ne_of_lt (blk_lt (g := gb141) (o := .cells #[.int .u64 a1_0, .int .u32 a1_1] 25 (0, 0)) (by (with_reducible repeat (first | refine blk_drewN ?_ _ | refine blk_drew ?_ | refine blk_alloc ?_ _)); exact BK141.out)) : gb141 ≠ gb151)); have n11_ := Aside0.mk ((by rw [hg]; exact Nat.ne_of_gt (blk_lt (g := gb141) (o := .cells #[.int .u64 a1_0, .int .u32 a1_1] 25 (0, 0)) (by (with_reducible repeat (first | refine blk_drewN ?_ _ | refine blk_drew ?_ | refine blk_alloc ?_ _)); exact BK141.out)) : gb151 ≠ gb141)); have n12_ := Aside0.mk ((by rw [hg]; exact Nat.ne_of_lt (blk_lt (g := gb142) (o := .cells #[.int .u64 a2_0, .int .u32 a2_1] 25 (0, 0)) (by (with_reducible repeat (first | refine blk_drewN ?_ _ | refine blk_drew ?_ | refine blk_alloc ?_ _)); exact BK142.out)) : gb142 ≠ gb151)); have n13_ := Aside0.mk ((by rw [hg]; exact Nat.ne_of_gt (blk_lt (g := gb142) (o := .cells #[.int .u64 a2_0, .int .u32 a2_1] 25 (0, 0)) (by (with_reducible repeat (first | refine blk_drewN ?_ _ | refine blk_drew ?_ | refine blk_alloc ?_ _)); exact BK142.out)) : gb151 ≠ gb142)); have n14_ := Aside0.mk ((by rw [hg]; exact Nat.ne_of_lt (blk_lt (g := gb147) (o := .cells #[.int .u64 t144, .int .u32 t145] 25 (0, 0)) (by (with_reducible repeat (first | refine blk_drewN ?_ _ | refine blk_drew ?_ | refine blk_alloc ?_ _)); exact BK147.out)) : gb147 ≠ gb151)); have n15_ := Aside0.mk ((by rw [hg]; exact Nat.ne_of_gt (blk_lt (g := gb147) (o := .cells #[.int .u64 t144, .int .u32 t145] 25 (0, 0)) (by (with_reducible repeat (first | refine blk_drewN ?_ _ | refine blk_drew ?_ | refine blk_alloc ?_ _)); exact BK147.out)) : gb151 ≠ gb147)); clear BK140; clear BK141; clear BK142; clear BK147; clear HB; have BK140 := n0_; have BK141 := n1_; have BK142 := n2_; have BK147 := n3_; have HB := n4_; have BK151 := n5_; have GW151 := n6_; have GE151 := n7_; have NB140_151 := n8_; have NB151_140 := n9_; have NB141_151 := n10_; have NB151_141 := n11_; have NB142_151 := n12_; have NB151_142 := n13_; have NB147_151 := n14_; have NB151_147 := n15_; clear n0_ n1_ n2_ n3_ n4_ n5_ n6_ n7_ n8_ n9_ n10_ n11_ n12_ n13_ n14_ n15_; clear hb hbox hg; have hnb25 := NB151_140.out; have hnc25 := NB140_151.out; have hnb26 := NB151_141.out; have hnc26 := NB141_151.out; have hnb27 := NB151_142.out; have hnc27 := NB142_151.out; have hnb28 := NB151_147.out; have hnc28 := NB147_151.out; have hcz29_0 : w24.cell? ⟨gb151, 0, none⟩ = some (.int .u64 0) := (blk_cell BK151.out 0).trans rfl; have hcz29_1 : w24.cell? ⟨gb151, 1, none⟩ = some (.int .u32 0) := (blk_cell BK151.out 1).trans rfl; have hfz29_0 := blk_frozen BK151.out 0; have hfz29_1 := blk_frozen BK151.out 1))
    (try simp only [Act.put, List.setIfInBounds_toArray, List.set_cons_zero, List.set_cons_succ])
    go_cut [46] (fun v46 wc => ∃ (kq : Nat) (x46_7 : Bool), v46 = .bool x46_7 ∧ Aside0 (dovecotelaw01_StampOrders.j0 kq t146 x46_7 a0_0 a0_1 a1_0 a1_1 a2_0 a2_1 t144 t145 = some r) ∧ Aside0 (kq ≤ k) ∧ Aside0 (wc.heap[gb140]? = some (.cells #[.int .u64 a0_0, .int .u32 a0_1] 25 (0, 0))) ∧ Aside0 (wc.heap[gb141]? = some (.cells #[.int .u64 a1_0, .int .u32 a1_1] 25 (0, 0))) ∧ Aside0 (wc.heap[gb142]? = some (.cells #[.int .u64 a2_0, .int .u32 a2_1] 25 (0, 0))) ∧ Aside0 (wc.heap[gb147]? = some (.cells #[.int .u64 t144, .int .u32 t145] 25 (0, 0))) ∧ Aside0 (wc.heap[gb151]? = some (.cells #[.int .u64 t148, .int .u32 t149] 25 (0, 0))) ∧ Aside0 (Below w.heap.size w wc))
    case first =>
      have H := HC8.out
      clear HC8
      replace H := Option.bind_eq_some_iff.mp H
      obtain ⟨t152, A300, H⟩ := H
      replace H : ((dovecoteref01_Right.f a0_0 a0_1).bind fun t153 => (if (t152 != t153) = true then (dovecotelaw01_StampOrders.j0 k t146 true a0_0 a0_1 a1_0 a1_1 a2_0 a2_1 t144 t145) else ((stamp_Less.f k a0_0 a0_1 a1_0 a1_1).bind fun t154 => ((dovecoteref01_Less.f a0_0 a0_1 a1_0 a1_1).bind fun t155 => (if (t154 != t155) = true then (dovecotelaw01_StampOrders.j0 k t146 true a0_0 a0_1 a1_0 a1_1 a2_0 a2_1 t144 t145) else (if (!(t144 == t148) || (!(t145 == t149))) = true then (dovecotelaw01_StampOrders.j0 k t146 true a0_0 a0_1 a1_0 a1_1 a2_0 a2_1 t144 t145) else (dovecotelaw01_StampOrders.j0 k t146 (t146 != t150) a0_0 a0_1 a1_0 a1_1 a2_0 a2_1 t144 t145))))))) = some r := H
      have A30 := Aside0.mk A300
      clear A300
      replace H := Option.bind_eq_some_iff.mp H
      obtain ⟨t153, A310, H⟩ := H
      replace H : (if (t152 != t153) = true then (dovecotelaw01_StampOrders.j0 k t146 true a0_0 a0_1 a1_0 a1_1 a2_0 a2_1 t144 t145) else ((stamp_Less.f k a0_0 a0_1 a1_0 a1_1).bind fun t154 => ((dovecoteref01_Less.f a0_0 a0_1 a1_0 a1_1).bind fun t155 => (if (t154 != t155) = true then (dovecotelaw01_StampOrders.j0 k t146 true a0_0 a0_1 a1_0 a1_1 a2_0 a2_1 t144 t145) else (if (!(t144 == t148) || (!(t145 == t149))) = true then (dovecotelaw01_StampOrders.j0 k t146 true a0_0 a0_1 a1_0 a1_1 a2_0 a2_1 t144 t145) else (dovecotelaw01_StampOrders.j0 k t146 (t146 != t150) a0_0 a0_1 a1_0 a1_1 a2_0 a2_1 t144 t145)))))) = some r := H
      have A31 := Aside0.mk A310
      clear A310
      by_cases c32 : (t152 != t153) = true
      · rw [if_pos c32] at H
        exact (dovecotelaw01_StampOrders.j0.no H hrt.out).elim
      · rw [if_neg c32] at H
        have c32b0 : (t152 != t153) = false := by simpa using c32
        (try (have c32b1 : decide (t152 = t153) = true := by simpa using c32))
        (try (have c32b2 : (t152 == t153) = true := by simpa using c32))
        clear c32
        (first | rw [c32b0] | (simp only [i64_w, i32_w]; rw [c32b0]) | skip)
        replace H := Option.bind_eq_some_iff.mp H
        obtain ⟨t154, A370, H⟩ := H
        replace H : ((dovecoteref01_Less.f a0_0 a0_1 a1_0 a1_1).bind fun t155 => (if (t154 != t155) = true then (dovecotelaw01_StampOrders.j0 k t146 true a0_0 a0_1 a1_0 a1_1 a2_0 a2_1 t144 t145) else (if (!(t144 == t148) || (!(t145 == t149))) = true then (dovecotelaw01_StampOrders.j0 k t146 true a0_0 a0_1 a1_0 a1_1 a2_0 a2_1 t144 t145) else (dovecotelaw01_StampOrders.j0 k t146 (t146 != t150) a0_0 a0_1 a1_0 a1_1 a2_0 a2_1 t144 t145)))) = some r := H
        have A37 := Aside0.mk A370
        clear A370
        replace H := Option.bind_eq_some_iff.mp H
        obtain ⟨t155, A380, H⟩ := H
        replace H : (if (t154 != t155) = true then (dovecotelaw01_StampOrders.j0 k t146 true a0_0 a0_1 a1_0 a1_1 a2_0 a2_1 t144 t145) else (if (!(t144 == t148) || (!(t145 == t149))) = true then (dovecotelaw01_StampOrders.j0 k t146 true a0_0 a0_1 a1_0 a1_1 a2_0 a2_1 t144 t145) else (dovecotelaw01_StampOrders.j0 k t146 (t146 != t150) a0_0 a0_1 a1_0 a1_1 a2_0 a2_1 t144 t145))) = some r := H
        have A38 := Aside0.mk A380
        clear A380
        by_cases c39 : (t154 != t155) = true
        · rw [if_pos c39] at H
          exact (dovecotelaw01_StampOrders.j0.no H hrt.out).elim
        · rw [if_neg c39] at H
          have c39b0 : (t154 != t155) = false := by simpa using c39
          (try (have c39b1 : decide (t154 = t155) = true := by simpa using c39))
          (try (have c39b2 : (t154 == t155) = true := by simpa using c39))
          clear c39
          by_cases c46 : (!(t144 == t148) || (!(t145 == t149))) = true
          · rw [if_pos c46] at H
            exact (dovecotelaw01_StampOrders.j0.no H hrt.out).elim
          · rw [if_neg c46] at H
            have c46b0 : (!(t144 == t148) || (!(t145 == t149))) = false := by simpa using c46
            clear c46
            have H' := Aside0.mk H
            clear H
            try go_wp2
            have n0_ : Aside0 (((w24.setCell ⟨gb151, 0, none⟩ (.int .u64 t148)).setCell ⟨gb151, 1, none⟩ (.int .u32 t149)).heap[gb140]? = some (.cells #[.int .u64 a0_0, .int .u32 a0_1] 25 (0, 0))) := ⟨by (with_reducible repeat (first | refine blk_drewN ?_ _ | refine blk_drew ?_ | refine blk_alloc ?_ _)); refine blk_far ?_ NB140_151.out _; (with_reducible repeat (first | refine blk_drewN ?_ _ | refine blk_drew ?_ | refine blk_alloc ?_ _)); refine blk_far ?_ NB140_151.out _; (with_reducible repeat (first | refine blk_drewN ?_ _ | refine blk_drew ?_ | refine blk_alloc ?_ _)); exact BK140.out⟩
            have n1_ : Aside0 (((w24.setCell ⟨gb151, 0, none⟩ (.int .u64 t148)).setCell ⟨gb151, 1, none⟩ (.int .u32 t149)).heap[gb141]? = some (.cells #[.int .u64 a1_0, .int .u32 a1_1] 25 (0, 0))) := ⟨by (with_reducible repeat (first | refine blk_drewN ?_ _ | refine blk_drew ?_ | refine blk_alloc ?_ _)); refine blk_far ?_ NB141_151.out _; (with_reducible repeat (first | refine blk_drewN ?_ _ | refine blk_drew ?_ | refine blk_alloc ?_ _)); refine blk_far ?_ NB141_151.out _; (with_reducible repeat (first | refine blk_drewN ?_ _ | refine blk_drew ?_ | refine blk_alloc ?_ _)); exact BK141.out⟩
            have n2_ : Aside0 (((w24.setCell ⟨gb151, 0, none⟩ (.int .u64 t148)).setCell ⟨gb151, 1, none⟩ (.int .u32 t149)).heap[gb142]? = some (.cells #[.int .u64 a2_0, .int .u32 a2_1] 25 (0, 0))) := ⟨by (with_reducible repeat (first | refine blk_drewN ?_ _ | refine blk_drew ?_ | refine blk_alloc ?_ _)); refine blk_far ?_ NB142_151.out _; (with_reducible repeat (first | refine blk_drewN ?_ _ | refine blk_drew ?_ | refine blk_alloc ?_ _)); refine blk_far ?_ NB142_151.out _; (with_reducible repeat (first | refine blk_drewN ?_ _ | refine blk_drew ?_ | refine blk_alloc ?_ _)); exact BK142.out⟩
            have n3_ : Aside0 (((w24.setCell ⟨gb151, 0, none⟩ (.int .u64 t148)).setCell ⟨gb151, 1, none⟩ (.int .u32 t149)).heap[gb147]? = some (.cells #[.int .u64 t144, .int .u32 t145] 25 (0, 0))) := ⟨by (with_reducible repeat (first | refine blk_drewN ?_ _ | refine blk_drew ?_ | refine blk_alloc ?_ _)); refine blk_far ?_ NB147_151.out _; (with_reducible repeat (first | refine blk_drewN ?_ _ | refine blk_drew ?_ | refine blk_alloc ?_ _)); refine blk_far ?_ NB147_151.out _; (with_reducible repeat (first | refine blk_drewN ?_ _ | refine blk_drew ?_ | refine blk_alloc ?_ _)); exact BK147.out⟩
            have n4_ : Aside0 (((w24.setCell ⟨gb151, 0, none⟩ (.int .u64 t148)).setCell ⟨gb151, 1, none⟩ (.int .u32 t149)).heap[gb151]? = some (.cells #[.int .u64 t148, .int .u32 t149] 25 (0, 0))) := ⟨by (with_reducible repeat (first | refine blk_drewN ?_ _ | refine blk_drew ?_ | refine blk_alloc ?_ _)); refine blk_put (cs := #[.int .u64 t148, .int .u32 0]) ?_ 1 _ rfl; (with_reducible repeat (first | refine blk_drewN ?_ _ | refine blk_drew ?_ | refine blk_alloc ?_ _)); refine blk_put (cs := #[.int .u64 0, .int .u32 0]) ?_ 0 _ rfl; (with_reducible repeat (first | refine blk_drewN ?_ _ | refine blk_drew ?_ | refine blk_alloc ?_ _)); exact BK151.out⟩
            have n5_ : Aside0 (Below w.heap.size w ((w24.setCell ⟨gb151, 0, none⟩ (.int .u64 t148)).setCell ⟨gb151, 1, none⟩ (.int .u32 t149))) := ⟨by repeat (first | (with_reducible first | exact HB.out | apply below_alloc | apply pw_below_drewN | apply below_drew1 | refine below_set ?_ GE140.out | refine below_set ?_ GE141.out | refine below_set ?_ GE142.out | refine below_set ?_ GE147.out | refine below_set ?_ GE151.out) | exact HB.out)⟩
            (try clear BK140)
            (try clear BK141)
            (try clear BK142)
            (try clear BK147)
            (try clear BK151)
            (try clear HB)
            generalize ((w24.setCell ⟨gb151, 0, none⟩ (.int .u64 t148)).setCell ⟨gb151, 1, none⟩ (.int .u32 t149)) = w53 at n0_ n1_ n2_ n3_ n4_ n5_ ⊢
            have BK140 := n0_
            have BK141 := n1_
            have BK142 := n2_
            have BK147 := n3_
            have BK151 := n4_
            have HB := n5_
            clear n0_ n1_ n2_ n3_ n4_ n5_
            have n0_ := Aside0.mk (blk_drew BK140.out)
            have n1_ := Aside0.mk (blk_drew BK141.out)
            have n2_ := Aside0.mk (blk_drew BK142.out)
            have n3_ := Aside0.mk (blk_drew BK147.out)
            have n4_ := Aside0.mk (blk_drew BK151.out)
            have n5_ := Aside0.mk (below_drew1 HB.out)
            clear BK140
            clear BK141
            clear BK142
            clear BK147
            clear BK151
            clear HB
            have BK140 := n0_
            have BK141 := n1_
            have BK142 := n2_
            have BK147 := n3_
            have BK151 := n4_
            have HB := n5_
            clear n0_ n1_ n2_ n3_ n4_ n5_
            refine start_ (n := 24) (S := fun w' => w'.cell? ⟨gb140, 0, none⟩ = some (.int .u64 a0_0) ∧ w'.cell? ⟨gb140, 1, none⟩ = some (.int .u32 a0_1) ∧ w'.cell? ⟨gb141, 0, none⟩ = some (.int .u64 a1_0) ∧ w'.cell? ⟨gb141, 1, none⟩ = some (.int .u32 a1_1) ∧ w'.cell? ⟨gb147, 0, none⟩ = some (.int .u64 t144) ∧ w'.cell? ⟨gb147, 1, none⟩ = some (.int .u32 t145) ∧ w'.cell? ⟨gb151, 0, none⟩ = some (.int .u64 t148) ∧ w'.cell? ⟨gb151, 1, none⟩ = some (.int .u32 t149)) (ds := []) #[false, false, false, false, false, false, false, false, false, false, false, false, false, false, false, false, false, false, false, false, false, false, false, false] (by kernel_rfl) rfl rfl ⟨(blk_cell BK140.out 0).trans rfl, (blk_cell BK140.out 1).trans rfl, (blk_cell BK141.out 0).trans rfl, (blk_cell BK141.out 1).trans rfl, (blk_cell BK147.out 0).trans rfl, (blk_cell BK147.out 1).trans rfl, (blk_cell BK151.out 0).trans rfl, (blk_cell BK151.out 1).trans rfl⟩ (fun hHeld => ?_); refine with_tabW dovecotelaw01_StampOrders.tab5 dovecotelaw01_StampOrders.bits5 (fun HT_ HW_ => ?_)
            generalize w53.drew = w54 at BK140 BK141 BK142 BK147 BK151 HB hHeld ⊢
            refine take_ (i := 0) (N := some 23) (v := ?_) (a' := ?_) #[true, false, false, false, false, false, false, false, false, false, false, false, false, false, false, false, false, false, false, false, false, false, false, false] rfl rfl (take_ofW HT_.out HW_.out (by kernel_rfl)) (fun _ _ _ h => h) (Or.inl ⟨by rfl, ?_⟩) hHeld ?_ ?_
            rotate_left
            · rintro w' ⟨s0, s1, s2, s3, s4, s5, s6, s7⟩
              go_simp
              with_reducible rfl
            rotate_left
            · simp only [Act.put, List.setIfInBounds_toArray, List.set_cons_zero, List.set_cons_succ, i64_w, i32_w]
              rfl
            refine take_ (i := 2) (N := some 25) (v := ?_) (a' := ?_) #[true, false, true, false, false, false, false, false, false, false, false, false, false, false, false, false, false, false, false, false, false, false, false, false] rfl rfl (take_ofW HT_.out HW_.out (by kernel_rfl)) (fun _ _ _ h => h) (Or.inl ⟨by rfl, ?_⟩) hHeld ?_ ?_
            rotate_left
            · rintro w' ⟨s0, s1, s2, s3, s4, s5, s6, s7⟩
              go_simp
              with_reducible rfl
            rotate_left
            · simp only [Act.put, List.setIfInBounds_toArray, List.set_cons_zero, List.set_cons_succ, i64_w, i32_w]
              rfl
            refine one_ (i := 1) (N := some 24) #[true, true, true, false, false, false, false, false, false, false, false, false, false, false, false, false, false, false, false, false, false, false, false, false] rfl rfl (one_of HT_.out (by kernel_rfl)) (by decide) (fun K hK => ?_)
            refine goes_ Tryd.func8 (by kernel_rfl) rfl #[.agg #[.int .u64 a0_0, .int .u32 a0_1]] (by rfl) rfl rfl (by (try simp only [List.map_toArray, List.map_cons, List.map_nil]); first | done | rfl | (simp only [List.length_drop, List.length_take]; rfl)) ?_
            with_reducible refine (stamp_Right.calls a0_0 a0_1 t152 _ A30.out).mono ?_
            rintro e w55 ⟨rfl, hb⟩
            refine ⟨_, rfl, ?_⟩
            have n0_ := Aside0.mk (blk_below (g := gb140) (o := .cells #[.int .u64 a0_0, .int .u32 a0_1] 25 (0, 0)) (by (with_reducible repeat (first | refine blk_drewN ?_ _ | refine blk_drew ?_ | refine blk_alloc ?_ _)); exact BK140.out) hb)
            have n1_ := Aside0.mk (blk_below (g := gb141) (o := .cells #[.int .u64 a1_0, .int .u32 a1_1] 25 (0, 0)) (by (with_reducible repeat (first | refine blk_drewN ?_ _ | refine blk_drew ?_ | refine blk_alloc ?_ _)); exact BK141.out) hb)
            have n2_ := Aside0.mk (blk_below (g := gb142) (o := .cells #[.int .u64 a2_0, .int .u32 a2_1] 25 (0, 0)) (by (with_reducible repeat (first | refine blk_drewN ?_ _ | refine blk_drew ?_ | refine blk_alloc ?_ _)); exact BK142.out) hb)
            have n3_ := Aside0.mk (blk_below (g := gb147) (o := .cells #[.int .u64 t144, .int .u32 t145] 25 (0, 0)) (by (with_reducible repeat (first | refine blk_drewN ?_ _ | refine blk_drew ?_ | refine blk_alloc ?_ _)); exact BK147.out) hb)
            have n4_ := Aside0.mk (blk_below (g := gb151) (o := .cells #[.int .u64 t148, .int .u32 t149] 25 (0, 0)) (by (with_reducible repeat (first | refine blk_drewN ?_ _ | refine blk_drew ?_ | refine blk_alloc ?_ _)); exact BK151.out) hb)
            have n5_ := Aside0.mk (below_step (by repeat (first | (with_reducible first | exact HB.out | apply below_alloc | apply pw_below_drewN | apply below_drew1 | refine below_set ?_ GE140.out | refine below_set ?_ GE141.out | refine below_set ?_ GE142.out | refine below_set ?_ GE147.out | refine below_set ?_ GE151.out) | exact HB.out)) hb)
            clear BK140
            clear BK141
            clear BK142
            clear BK147
            clear BK151
            clear HB
            have BK140 := n0_
            have BK141 := n1_
            have BK142 := n2_
            have BK147 := n3_
            have BK151 := n4_
            have HB := n5_
            clear n0_ n1_ n2_ n3_ n4_ n5_
            (try clear hb)
            (try clear hb2)
            (try clear hk)
            (try clear hi)
            refine hK.out _ _ ⟨(blk_cell BK140.out 0).trans rfl, (blk_cell BK140.out 1).trans rfl, (blk_cell BK141.out 0).trans rfl, (blk_cell BK141.out 1).trans rfl, (blk_cell BK147.out 0).trans rfl, (blk_cell BK147.out 1).trans rfl, (blk_cell BK151.out 0).trans rfl, (blk_cell BK151.out 1).trans rfl⟩ (fun hHeld => ?_)
            clear hK K
            refine norm_ (a' := ?_) ?_ ?_
            rotate_left
            · show Act.put _ (some 24) _ = _
              simp only [Act.put, List.setIfInBounds_toArray, List.set_cons_zero, List.set_cons_succ, i64_w, i32_w]
              rfl
            refine one_ (i := 3) (N := some 26) #[true, true, true, true, false, false, false, false, false, false, false, false, false, false, false, false, false, false, false, false, false, false, false, false] rfl rfl (one_of HT_.out (by kernel_rfl)) (by decide) (fun K hK => ?_)
            refine goes_ Tryd.func13 (by kernel_rfl) rfl #[.agg #[.int .u64 a0_0, .int .u32 a0_1]] (by rfl) rfl rfl (by (try simp only [List.map_toArray, List.map_cons, List.map_nil]); first | done | rfl | (simp only [List.length_drop, List.length_take]; rfl)) ?_
            with_reducible refine (dovecoteref01_Right.calls a0_0 a0_1 t153 _ A31.out).mono ?_
            rintro e w56 ⟨rfl, hb⟩
            refine ⟨_, rfl, ?_⟩
            have n0_ := Aside0.mk (blk_below (g := gb140) (o := .cells #[.int .u64 a0_0, .int .u32 a0_1] 25 (0, 0)) (by (with_reducible repeat (first | refine blk_drewN ?_ _ | refine blk_drew ?_ | refine blk_alloc ?_ _)); exact BK140.out) hb)
            have n1_ := Aside0.mk (blk_below (g := gb141) (o := .cells #[.int .u64 a1_0, .int .u32 a1_1] 25 (0, 0)) (by (with_reducible repeat (first | refine blk_drewN ?_ _ | refine blk_drew ?_ | refine blk_alloc ?_ _)); exact BK141.out) hb)
            have n2_ := Aside0.mk (blk_below (g := gb142) (o := .cells #[.int .u64 a2_0, .int .u32 a2_1] 25 (0, 0)) (by (with_reducible repeat (first | refine blk_drewN ?_ _ | refine blk_drew ?_ | refine blk_alloc ?_ _)); exact BK142.out) hb)
            have n3_ := Aside0.mk (blk_below (g := gb147) (o := .cells #[.int .u64 t144, .int .u32 t145] 25 (0, 0)) (by (with_reducible repeat (first | refine blk_drewN ?_ _ | refine blk_drew ?_ | refine blk_alloc ?_ _)); exact BK147.out) hb)
            have n4_ := Aside0.mk (blk_below (g := gb151) (o := .cells #[.int .u64 t148, .int .u32 t149] 25 (0, 0)) (by (with_reducible repeat (first | refine blk_drewN ?_ _ | refine blk_drew ?_ | refine blk_alloc ?_ _)); exact BK151.out) hb)
            have n5_ := Aside0.mk (below_step (by repeat (first | (with_reducible first | exact HB.out | apply below_alloc | apply pw_below_drewN | apply below_drew1 | refine below_set ?_ GE140.out | refine below_set ?_ GE141.out | refine below_set ?_ GE142.out | refine below_set ?_ GE147.out | refine below_set ?_ GE151.out) | exact HB.out)) hb)
            clear BK140
            clear BK141
            clear BK142
            clear BK147
            clear BK151
            clear HB
            have BK140 := n0_
            have BK141 := n1_
            have BK142 := n2_
            have BK147 := n3_
            have BK151 := n4_
            have HB := n5_
            clear n0_ n1_ n2_ n3_ n4_ n5_
            (try clear hb)
            (try clear hb2)
            (try clear hk)
            (try clear hi)
            refine hK.out _ _ ⟨(blk_cell BK140.out 0).trans rfl, (blk_cell BK140.out 1).trans rfl, (blk_cell BK141.out 0).trans rfl, (blk_cell BK141.out 1).trans rfl, (blk_cell BK147.out 0).trans rfl, (blk_cell BK147.out 1).trans rfl, (blk_cell BK151.out 0).trans rfl, (blk_cell BK151.out 1).trans rfl⟩ (fun hHeld => ?_)
            clear hK K
            refine norm_ (a' := ?_) ?_ ?_
            rotate_left
            · show Act.put _ (some 26) _ = _
              simp only [Act.put, List.setIfInBounds_toArray, List.set_cons_zero, List.set_cons_succ, i64_w, i32_w]
              rfl
            refine pure_ (i := 4) (N := some 27) (v := ?_) (a' := ?_) #[true, true, true, true, true, false, false, false, false, false, false, false, false, false, false, false, false, false, false, false, false, false, false, false] rfl rfl (any_of HT_.out (by kernel_rfl)) (fun _ _ _ h => h) (Or.inl ⟨by rfl, ?_⟩) ?_ ?_
            rotate_left
            · intro w'
              go_simp
              with_reducible rfl
            rotate_left
            · simp only [Act.put, List.setIfInBounds_toArray, List.set_cons_zero, List.set_cons_succ, i64_w, i32_w]
              rfl
            refine pure_ (i := 5) (N := some 28) (v := ?_) (a' := ?_) #[true, true, true, true, true, true, false, false, false, false, false, false, false, false, false, false, false, false, false, false, false, false, false, false] rfl rfl (any_of HT_.out (by kernel_rfl)) (fun _ _ _ h => h) (Or.inl ⟨by rfl, ?_⟩) ?_ ?_
            rotate_left
            · intro w'
              go_simp
              with_reducible rfl
            rotate_left
            · simp only [Act.put, List.setIfInBounds_toArray, List.set_cons_zero, List.set_cons_succ, i64_w, i32_w]
              rfl
            refine take_ (i := 6) (N := some 29) (v := ?_) (a' := ?_) #[true, true, true, true, true, true, true, false, false, false, false, false, false, false, false, false, false, false, false, false, false, false, false, false] rfl rfl (take_ofW HT_.out HW_.out (by kernel_rfl)) (fun _ _ _ h => h) (Or.inl ⟨by rfl, ?_⟩) hHeld ?_ ?_
            rotate_left
            · rintro w' ⟨s0, s1, s2, s3, s4, s5, s6, s7⟩
              go_simp
              with_reducible rfl
            rotate_left
            · simp only [Act.put, List.setIfInBounds_toArray, List.set_cons_zero, List.set_cons_succ, i64_w, i32_w]
              rfl
            refine take_ (i := 7) (N := some 30) (v := ?_) (a' := ?_) #[true, true, true, true, true, true, true, true, false, false, false, false, false, false, false, false, false, false, false, false, false, false, false, false] rfl rfl (take_ofW HT_.out HW_.out (by kernel_rfl)) (fun _ _ _ h => h) (Or.inl ⟨by rfl, ?_⟩) hHeld ?_ ?_
            rotate_left
            · rintro w' ⟨s0, s1, s2, s3, s4, s5, s6, s7⟩
              go_simp
              with_reducible rfl
            rotate_left
            · simp only [Act.put, List.setIfInBounds_toArray, List.set_cons_zero, List.set_cons_succ, i64_w, i32_w]
              rfl
            refine take_ (i := 9) (N := some 32) (v := ?_) (a' := ?_) #[true, true, true, true, true, true, true, true, false, true, false, false, false, false, false, false, false, false, false, false, false, false, false, false] rfl rfl (take_ofW HT_.out HW_.out (by kernel_rfl)) (fun _ _ _ h => h) (Or.inl ⟨by rfl, ?_⟩) hHeld ?_ ?_
            rotate_left
            · rintro w' ⟨s0, s1, s2, s3, s4, s5, s6, s7⟩
              go_simp
              with_reducible rfl
            rotate_left
            · simp only [Act.put, List.setIfInBounds_toArray, List.set_cons_zero, List.set_cons_succ, i64_w, i32_w]
              rfl
            refine take_ (i := 10) (N := some 33) (v := ?_) (a' := ?_) #[true, true, true, true, true, true, true, true, false, true, true, false, false, false, false, false, false, false, false, false, false, false, false, false] rfl rfl (take_ofW HT_.out HW_.out (by kernel_rfl)) (fun _ _ _ h => h) (Or.inl ⟨by rfl, ?_⟩) hHeld ?_ ?_
            rotate_left
            · rintro w' ⟨s0, s1, s2, s3, s4, s5, s6, s7⟩
              go_simp
              with_reducible rfl
            rotate_left
            · simp only [Act.put, List.setIfInBounds_toArray, List.set_cons_zero, List.set_cons_succ, i64_w, i32_w]
              rfl
            refine one_ (i := 8) (N := some 31) #[true, true, true, true, true, true, true, true, true, true, true, false, false, false, false, false, false, false, false, false, false, false, false, false] rfl rfl (one_of HT_.out (by kernel_rfl)) (by decide) (fun K hK => ?_)
            refine goes_ Tryd.func11 (by kernel_rfl) rfl #[.agg #[.int .u64 a0_0, .int .u32 a0_1], .agg #[.int .u64 a1_0, .int .u32 a1_1]] (by rfl) rfl rfl (by (try simp only [List.map_toArray, List.map_cons, List.map_nil]); first | done | rfl | (simp only [List.length_drop, List.length_take]; rfl)) ?_
            with_reducible refine (stamp_Less.calls k a0_0 a0_1 a1_0 a1_1 t154 _ A37.out).mono ?_
            rintro e w57 ⟨rfl, hb⟩
            refine ⟨_, rfl, ?_⟩
            have n0_ := Aside0.mk (blk_below (g := gb140) (o := .cells #[.int .u64 a0_0, .int .u32 a0_1] 25 (0, 0)) (by (with_reducible repeat (first | refine blk_drewN ?_ _ | refine blk_drew ?_ | refine blk_alloc ?_ _)); exact BK140.out) hb)
            have n1_ := Aside0.mk (blk_below (g := gb141) (o := .cells #[.int .u64 a1_0, .int .u32 a1_1] 25 (0, 0)) (by (with_reducible repeat (first | refine blk_drewN ?_ _ | refine blk_drew ?_ | refine blk_alloc ?_ _)); exact BK141.out) hb)
            have n2_ := Aside0.mk (blk_below (g := gb142) (o := .cells #[.int .u64 a2_0, .int .u32 a2_1] 25 (0, 0)) (by (with_reducible repeat (first | refine blk_drewN ?_ _ | refine blk_drew ?_ | refine blk_alloc ?_ _)); exact BK142.out) hb)
            have n3_ := Aside0.mk (blk_below (g := gb147) (o := .cells #[.int .u64 t144, .int .u32 t145] 25 (0, 0)) (by (with_reducible repeat (first | refine blk_drewN ?_ _ | refine blk_drew ?_ | refine blk_alloc ?_ _)); exact BK147.out) hb)
            have n4_ := Aside0.mk (blk_below (g := gb151) (o := .cells #[.int .u64 t148, .int .u32 t149] 25 (0, 0)) (by (with_reducible repeat (first | refine blk_drewN ?_ _ | refine blk_drew ?_ | refine blk_alloc ?_ _)); exact BK151.out) hb)
            have n5_ := Aside0.mk (below_step (by repeat (first | (with_reducible first | exact HB.out | apply below_alloc | apply pw_below_drewN | apply below_drew1 | refine below_set ?_ GE140.out | refine below_set ?_ GE141.out | refine below_set ?_ GE142.out | refine below_set ?_ GE147.out | refine below_set ?_ GE151.out) | exact HB.out)) hb)
            clear BK140
            clear BK141
            clear BK142
            clear BK147
            clear BK151
            clear HB
            have BK140 := n0_
            have BK141 := n1_
            have BK142 := n2_
            have BK147 := n3_
            have BK151 := n4_
            have HB := n5_
            clear n0_ n1_ n2_ n3_ n4_ n5_
            (try clear hb)
            (try clear hb2)
            (try clear hk)
            (try clear hi)
            refine hK.out _ _ ⟨(blk_cell BK140.out 0).trans rfl, (blk_cell BK140.out 1).trans rfl, (blk_cell BK141.out 0).trans rfl, (blk_cell BK141.out 1).trans rfl, (blk_cell BK147.out 0).trans rfl, (blk_cell BK147.out 1).trans rfl, (blk_cell BK151.out 0).trans rfl, (blk_cell BK151.out 1).trans rfl⟩ (fun hHeld => ?_)
            clear hK K
            refine norm_ (a' := ?_) ?_ ?_
            rotate_left
            · show Act.put _ (some 31) _ = _
              simp only [Act.put, List.setIfInBounds_toArray, List.set_cons_zero, List.set_cons_succ, i64_w, i32_w]
              rfl
            refine one_ (i := 11) (N := some 34) #[true, true, true, true, true, true, true, true, true, true, true, true, false, false, false, false, false, false, false, false, false, false, false, false] rfl rfl (one_of HT_.out (by kernel_rfl)) (by decide) (fun K hK => ?_)
            refine goes_ Tryd.func14 (by kernel_rfl) rfl #[.agg #[.int .u64 a0_0, .int .u32 a0_1], .agg #[.int .u64 a1_0, .int .u32 a1_1]] (by rfl) rfl rfl (by (try simp only [List.map_toArray, List.map_cons, List.map_nil]); first | done | rfl | (simp only [List.length_drop, List.length_take]; rfl)) ?_
            with_reducible refine (dovecoteref01_Less.calls a0_0 a0_1 a1_0 a1_1 t155 _ A38.out).mono ?_
            rintro e w58 ⟨rfl, hb⟩
            refine ⟨_, rfl, ?_⟩
            have n0_ := Aside0.mk (blk_below (g := gb140) (o := .cells #[.int .u64 a0_0, .int .u32 a0_1] 25 (0, 0)) (by (with_reducible repeat (first | refine blk_drewN ?_ _ | refine blk_drew ?_ | refine blk_alloc ?_ _)); exact BK140.out) hb)
            have n1_ := Aside0.mk (blk_below (g := gb141) (o := .cells #[.int .u64 a1_0, .int .u32 a1_1] 25 (0, 0)) (by (with_reducible repeat (first | refine blk_drewN ?_ _ | refine blk_drew ?_ | refine blk_alloc ?_ _)); exact BK141.out) hb)
            have n2_ := Aside0.mk (blk_below (g := gb142) (o := .cells #[.int .u64 a2_0, .int .u32 a2_1] 25 (0, 0)) (by (with_reducible repeat (first | refine blk_drewN ?_ _ | refine blk_drew ?_ | refine blk_alloc ?_ _)); exact BK142.out) hb)
            have n3_ := Aside0.mk (blk_below (g := gb147) (o := .cells #[.int .u64 t144, .int .u32 t145] 25 (0, 0)) (by (with_reducible repeat (first | refine blk_drewN ?_ _ | refine blk_drew ?_ | refine blk_alloc ?_ _)); exact BK147.out) hb)
            have n4_ := Aside0.mk (blk_below (g := gb151) (o := .cells #[.int .u64 t148, .int .u32 t149] 25 (0, 0)) (by (with_reducible repeat (first | refine blk_drewN ?_ _ | refine blk_drew ?_ | refine blk_alloc ?_ _)); exact BK151.out) hb)
            have n5_ := Aside0.mk (below_step (by repeat (first | (with_reducible first | exact HB.out | apply below_alloc | apply pw_below_drewN | apply below_drew1 | refine below_set ?_ GE140.out | refine below_set ?_ GE141.out | refine below_set ?_ GE142.out | refine below_set ?_ GE147.out | refine below_set ?_ GE151.out) | exact HB.out)) hb)
            clear BK140
            clear BK141
            clear BK142
            clear BK147
            clear BK151
            clear HB
            have BK140 := n0_
            have BK141 := n1_
            have BK142 := n2_
            have BK147 := n3_
            have BK151 := n4_
            have HB := n5_
            clear n0_ n1_ n2_ n3_ n4_ n5_
            (try clear hb)
            (try clear hb2)
            (try clear hk)
            (try clear hi)
            refine hK.out _ _ ⟨(blk_cell BK140.out 0).trans rfl, (blk_cell BK140.out 1).trans rfl, (blk_cell BK141.out 0).trans rfl, (blk_cell BK141.out 1).trans rfl, (blk_cell BK147.out 0).trans rfl, (blk_cell BK147.out 1).trans rfl, (blk_cell BK151.out 0).trans rfl, (blk_cell BK151.out 1).trans rfl⟩ (fun hHeld => ?_)
            clear hK K
            refine norm_ (a' := ?_) ?_ ?_
            rotate_left
            · show Act.put _ (some 34) _ = _
              simp only [Act.put, List.setIfInBounds_toArray, List.set_cons_zero, List.set_cons_succ, i64_w, i32_w]
              rfl
            refine pure_ (i := 12) (N := some 35) (v := ?_) (a' := ?_) #[true, true, true, true, true, true, true, true, true, true, true, true, true, false, false, false, false, false, false, false, false, false, false, false] rfl rfl (any_of HT_.out (by kernel_rfl)) (fun _ _ _ h => h) (Or.inl ⟨by rfl, ?_⟩) ?_ ?_
            rotate_left
            · intro w'
              go_simp
              with_reducible rfl
            rotate_left
            · simp only [Act.put, List.setIfInBounds_toArray, List.set_cons_zero, List.set_cons_succ, i64_w, i32_w]
              rfl
            refine pure_ (i := 13) (N := some 36) (v := ?_) (a' := ?_) #[true, true, true, true, true, true, true, true, true, true, true, true, true, true, false, false, false, false, false, false, false, false, false, false] rfl rfl (any_of HT_.out (by kernel_rfl)) (fun _ _ _ h => h) (Or.inl ⟨by rfl, ?_⟩) ?_ ?_
            rotate_left
            · intro w'
              go_simp
              with_reducible rfl
            rotate_left
            · simp only [Act.put, List.setIfInBounds_toArray, List.set_cons_zero, List.set_cons_succ, i64_w, i32_w]
              rfl
            refine pure_ (i := 14) (N := some 37) (v := ?_) (a' := ?_) #[true, true, true, true, true, true, true, true, true, true, true, true, true, true, true, false, false, false, false, false, false, false, false, false] rfl rfl (any_of HT_.out (by kernel_rfl)) (fun _ _ _ h => h) (Or.inl ⟨by rfl, ?_⟩) ?_ ?_
            rotate_left
            · intro w'
              go_simp
              with_reducible rfl
            rotate_left
            · simp only [Act.put, List.setIfInBounds_toArray, List.set_cons_zero, List.set_cons_succ, i64_w, i32_w]
              rfl
            refine take_ (i := 15) (N := some 38) (v := ?_) (a' := ?_) #[true, true, true, true, true, true, true, true, true, true, true, true, true, true, true, true, false, false, false, false, false, false, false, false] rfl rfl (take_ofW HT_.out HW_.out (by kernel_rfl)) (fun _ _ _ h => h) (Or.inl ⟨by rfl, ?_⟩) hHeld ?_ ?_
            rotate_left
            · rintro w' ⟨s0, s1, s2, s3, s4, s5, s6, s7⟩
              go_simp
              with_reducible rfl
            rotate_left
            · simp only [Act.put, List.setIfInBounds_toArray, List.set_cons_zero, List.set_cons_succ, i64_w, i32_w]
              rfl
            refine take_ (i := 16) (N := some 39) (v := ?_) (a' := ?_) #[true, true, true, true, true, true, true, true, true, true, true, true, true, true, true, true, true, false, false, false, false, false, false, false] rfl rfl (take_ofW HT_.out HW_.out (by kernel_rfl)) (fun _ _ _ h => h) (Or.inl ⟨by rfl, ?_⟩) hHeld ?_ ?_
            rotate_left
            · rintro w' ⟨s0, s1, s2, s3, s4, s5, s6, s7⟩
              go_simp
              with_reducible rfl
            rotate_left
            · simp only [Act.put, List.setIfInBounds_toArray, List.set_cons_zero, List.set_cons_succ, i64_w, i32_w]
              rfl
            refine pure_ (i := 17) (N := some 40) (v := ?_) (a' := ?_) #[true, true, true, true, true, true, true, true, true, true, true, true, true, true, true, true, true, true, false, false, false, false, false, false] rfl rfl (any_of HT_.out (by kernel_rfl)) (fun _ _ _ h => h) (Or.inl ⟨by rfl, ?_⟩) ?_ ?_
            rotate_left
            · intro w'
              go_simp
              with_reducible rfl
            rotate_left
            · simp only [Act.put, List.setIfInBounds_toArray, List.set_cons_zero, List.set_cons_succ, i64_w, i32_w]
              rfl
            refine pure_ (i := 18) (N := some 41) (v := ?_) (a' := ?_) #[true, true, true, true, true, true, true, true, true, true, true, true, true, true, true, true, true, true, true, false, false, false, false, false] rfl rfl (any_of HT_.out (by kernel_rfl)) (fun _ _ _ h => h) (Or.inl ⟨by rfl, ?_⟩) ?_ ?_
            rotate_left
            · intro w'
              go_simp
              with_reducible rfl
            rotate_left
            · simp only [Act.put, List.setIfInBounds_toArray, List.set_cons_zero, List.set_cons_succ, i64_w, i32_w]
              rfl
            refine pure_ (i := 19) (N := some 42) (v := ?_) (a' := ?_) #[true, true, true, true, true, true, true, true, true, true, true, true, true, true, true, true, true, true, true, true, false, false, false, false] rfl rfl (any_of HT_.out (by kernel_rfl)) (fun _ _ _ h => h) (Or.inl ⟨by rfl, ?_⟩) ?_ ?_
            rotate_left
            · intro w'
              go_simp
              with_reducible rfl
            rotate_left
            · simp only [Act.put, List.setIfInBounds_toArray, List.set_cons_zero, List.set_cons_succ, i64_w, i32_w]
              rfl
            refine pure_ (i := 20) (N := some 43) (v := ?_) (a' := ?_) #[true, true, true, true, true, true, true, true, true, true, true, true, true, true, true, true, true, true, true, true, true, false, false, false] rfl rfl (any_of HT_.out (by kernel_rfl)) (fun _ _ _ h => h) (Or.inl ⟨by rfl, ?_⟩) ?_ ?_
            rotate_left
            · intro w'
              go_simp
              with_reducible rfl
            rotate_left
            · simp only [Act.put, List.setIfInBounds_toArray, List.set_cons_zero, List.set_cons_succ, i64_w, i32_w]
              rfl
            refine pure_ (i := 21) (N := some 44) (v := ?_) (a' := ?_) #[true, true, true, true, true, true, true, true, true, true, true, true, true, true, true, true, true, true, true, true, true, true, false, false] rfl rfl (any_of HT_.out (by kernel_rfl)) (fun _ _ _ h => h) (Or.inl ⟨by rfl, ?_⟩) ?_ ?_
            rotate_left
            · intro w'
              go_simp
              with_reducible rfl
            rotate_left
            · simp only [Act.put, List.setIfInBounds_toArray, List.set_cons_zero, List.set_cons_succ, i64_w, i32_w]
              rfl
            refine pure_ (i := 22) (N := some 45) (v := ?_) (a' := ?_) #[true, true, true, true, true, true, true, true, true, true, true, true, true, true, true, true, true, true, true, true, true, true, true, false] rfl rfl (any_of HT_.out (by kernel_rfl)) (fun _ _ _ h => h) (Or.inl ⟨by rfl, ?_⟩) ?_ ?_
            rotate_left
            · intro w'
              go_simp
              with_reducible rfl
            rotate_left
            · simp only [Act.put, List.setIfInBounds_toArray, List.set_cons_zero, List.set_cons_succ, i64_w, i32_w]
              rfl
            refine pure_ (i := 23) (N := some 46) (v := ?_) (a' := ?_) #[true, true, true, true, true, true, true, true, true, true, true, true, true, true, true, true, true, true, true, true, true, true, true, true] rfl rfl (any_of HT_.out (by kernel_rfl)) (fun _ _ _ h => h) (Or.inl ⟨by rfl, ?_⟩) ?_ ?_
            rotate_left
            · intro w'
              go_simp
              with_reducible rfl
            rotate_left
            · simp only [Act.put, List.setIfInBounds_toArray, List.set_cons_zero, List.set_cons_succ, i64_w, i32_w]
              rfl
            refine done_ (done_of HT_.out (by kernel_rfl)) ?_
            try go_wp2
            go_meet
            case rel => exact ⟨_, ((t146 != t150)), (by first | rfl | (simp; done) | (simp [*]; done)), H', ⟨by first | omega | exact Nat.le_refl _⟩, ⟨by (with_reducible repeat (first | refine blk_drewN ?_ _ | refine blk_drew ?_ | refine blk_alloc ?_ _)); exact BK140.out⟩, ⟨by (with_reducible repeat (first | refine blk_drewN ?_ _ | refine blk_drew ?_ | refine blk_alloc ?_ _)); exact BK141.out⟩, ⟨by (with_reducible repeat (first | refine blk_drewN ?_ _ | refine blk_drew ?_ | refine blk_alloc ?_ _)); exact BK142.out⟩, ⟨by (with_reducible repeat (first | refine blk_drewN ?_ _ | refine blk_drew ?_ | refine blk_alloc ?_ _)); exact BK147.out⟩, ⟨by (with_reducible repeat (first | refine blk_drewN ?_ _ | refine blk_drew ?_ | refine blk_alloc ?_ _)); exact BK151.out⟩, ⟨by repeat (first | (with_reducible first | exact HB.out | apply below_alloc | apply pw_below_drewN | apply below_drew1 | refine below_set ?_ GE140.out | refine below_set ?_ GE141.out | refine below_set ?_ GE142.out | refine below_set ?_ GE147.out | refine below_set ?_ GE151.out) | exact HB.out)⟩⟩
    case rest =>
      clear HC8
      try clear c1
      try clear p2
      try clear c4
      try clear c8
      try clear c11
      try clear c13
      try clear c14
      try clear c46
      try clear c46b0
      obtain ⟨kq, x46_7, rfl, HA, HJ7, BK140, BK141, BK142, BK147, BK151, HB⟩ := hcut
      cases kq with
      | zero => exact absurd HA.out (by simp [dovecotelaw01_StampOrders.j0])
      | succ kj7 =>
        have H := HA.out
        clear HA
        simp only [dovecotelaw01_StampOrders.j0] at H
        by_cases c59 : x46_7 = true
        · subst c59
          have H1 : (some false) = some r := by rw [if_pos rfl] at H; exact H
          exact absurd ((Option.some.inj H1).trans hrt.out) (by decide)
        · replace c59 := Bool.eq_false_iff.mpr c59
          subst c59
          have H1 : ((stamp_Max.f kj7 (([(⟨a0_0, a0_1⟩ : S25), (⟨a1_0, a1_1⟩ : S25), (⟨a2_0, a2_1⟩ : S25)] : List (S25)))).bind fun bt159 => ((dovecoteref01_Max.f a0_0 a0_1 a1_0 a1_1).bind fun bt161 => ((dovecoteref01_Max.f bt161.1 bt161.2 a2_0 a2_1).bind fun bt163 => (if (!(bt159.1 == bt163.1) || (!(bt159.2 == bt163.2))) = true then (dovecotelaw01_StampOrders.j1 kj7 t146 true a0_0 a0_1 a1_0 a1_1 a2_0 a2_1 t144 t145) else ((stamp_Max.f kj7 ([] : List (S25))).bind fun bt165 => (if (!(bt165.1 == 0) || (!(bt165.2 == 0))) = true then (dovecotelaw01_StampOrders.j1 kj7 t146 true a0_0 a0_1 a1_0 a1_1 a2_0 a2_1 t144 t145) else ((stamp_Max.f kj7 (([(⟨a1_0, a1_1⟩ : S25)] : List (S25)))).bind fun bt170 => (dovecotelaw01_StampOrders.j1 kj7 t146 (!(bt170.1 == a1_0) || (!(bt170.2 == a1_1))) a0_0 a0_1 a1_0 a1_1 a2_0 a2_1 t144 t145)))))))) = some r := by rw [if_neg (show ¬ (false = true) by decide)] at H; exact H
          clear H
          have H := H1
          clear H1
          have HC60 := Aside0.mk H
          clear H
          go_upto_region 7 with (fail)
          go_cut [69] (fun v69 wc => ∃ (kq : Nat) (x69_59 : Bool), v69 = .bool x69_59 ∧ Aside0 (dovecotelaw01_StampOrders.j1 kq t146 x69_59 a0_0 a0_1 a1_0 a1_1 a2_0 a2_1 t144 t145 = some r) ∧ Aside0 (kq ≤ kj7) ∧ Aside0 (wc.heap[gb140]? = some (.cells #[.int .u64 a0_0, .int .u32 a0_1] 25 (0, 0))) ∧ Aside0 (wc.heap[gb141]? = some (.cells #[.int .u64 a1_0, .int .u32 a1_1] 25 (0, 0))) ∧ Aside0 (wc.heap[gb142]? = some (.cells #[.int .u64 a2_0, .int .u32 a2_1] 25 (0, 0))) ∧ Aside0 (wc.heap[gb147]? = some (.cells #[.int .u64 t144, .int .u32 t145] 25 (0, 0))) ∧ Aside0 (wc.heap[gb151]? = some (.cells #[.int .u64 t148, .int .u32 t149] 25 (0, 0))) ∧ Aside0 (Below w.heap.size w wc))
          case first =>
            have H := HC60.out
            clear HC60
            obtain ⟨y156, hy156⟩ : ∃ y_ : List (S25), y_ = (([(⟨a0_0, a0_1⟩ : S25), (⟨a1_0, a1_1⟩ : S25), (⟨a2_0, a2_1⟩ : S25)] : List (S25))) := ⟨_, rfl⟩
            replace H : ((stamp_Max.f kj7 y156).bind fun bt159 => ((dovecoteref01_Max.f a0_0 a0_1 a1_0 a1_1).bind fun bt161 => ((dovecoteref01_Max.f bt161.1 bt161.2 a2_0 a2_1).bind fun bt163 => (if (!(bt159.1 == bt163.1) || (!(bt159.2 == bt163.2))) = true then (dovecotelaw01_StampOrders.j1 kj7 t146 true a0_0 a0_1 a1_0 a1_1 a2_0 a2_1 t144 t145) else ((stamp_Max.f kj7 ([] : List (S25))).bind fun bt165 => (if (!(bt165.1 == 0) || (!(bt165.2 == 0))) = true then (dovecotelaw01_StampOrders.j1 kj7 t146 true a0_0 a0_1 a1_0 a1_1 a2_0 a2_1 t144 t145) else ((stamp_Max.f kj7 (([(⟨a1_0, a1_1⟩ : S25)] : List (S25)))).bind fun bt170 => (dovecotelaw01_StampOrders.j1 kj7 t146 (!(bt170.1 == a1_0) || (!(bt170.2 == a1_1))) a0_0 a0_1 a1_0 a1_1 a2_0 a2_1 t144 t145)))))))) = some r := by first | (rw [hy156]; with_reducible exact H) | (have H2_ := (Option.bind_some _ _).symm.trans H; rw [hy156]; with_reducible exact H2_) | (have H2_ := (Option.bind_some _ _).symm.trans H; with_reducible exact H2_) | with_reducible exact H | (rw [hy156]; exact H) | exact H
            have Ny156 := Aside0.mk hy156
            clear hy156
            replace H := Option.bind_eq_some_iff.mp H
            obtain ⟨⟨t159, t160⟩, A610, H⟩ := H
            replace H : ((dovecoteref01_Max.f a0_0 a0_1 a1_0 a1_1).bind fun bt161 => ((dovecoteref01_Max.f bt161.1 bt161.2 a2_0 a2_1).bind fun bt163 => (if (!(t159 == bt163.1) || (!(t160 == bt163.2))) = true then (dovecotelaw01_StampOrders.j1 kj7 t146 true a0_0 a0_1 a1_0 a1_1 a2_0 a2_1 t144 t145) else ((stamp_Max.f kj7 ([] : List (S25))).bind fun bt165 => (if (!(bt165.1 == 0) || (!(bt165.2 == 0))) = true then (dovecotelaw01_StampOrders.j1 kj7 t146 true a0_0 a0_1 a1_0 a1_1 a2_0 a2_1 t144 t145) else ((stamp_Max.f kj7 (([(⟨a1_0, a1_1⟩ : S25)] : List (S25)))).bind fun bt170 => (dovecotelaw01_StampOrders.j1 kj7 t146 (!(bt170.1 == a1_0) || (!(bt170.2 == a1_1))) a0_0 a0_1 a1_0 a1_1 a2_0 a2_1 t144 t145))))))) = some r := H
            have A61 := Aside0.mk A610
            clear A610
            replace H := Option.bind_eq_some_iff.mp H
            obtain ⟨⟨t161, t162⟩, A620, H⟩ := H
            replace H : ((dovecoteref01_Max.f t161 t162 a2_0 a2_1).bind fun bt163 => (if (!(t159 == bt163.1) || (!(t160 == bt163.2))) = true then (dovecotelaw01_StampOrders.j1 kj7 t146 true a0_0 a0_1 a1_0 a1_1 a2_0 a2_1 t144 t145) else ((stamp_Max.f kj7 ([] : List (S25))).bind fun bt165 => (if (!(bt165.1 == 0) || (!(bt165.2 == 0))) = true then (dovecotelaw01_StampOrders.j1 kj7 t146 true a0_0 a0_1 a1_0 a1_1 a2_0 a2_1 t144 t145) else ((stamp_Max.f kj7 (([(⟨a1_0, a1_1⟩ : S25)] : List (S25)))).bind fun bt170 => (dovecotelaw01_StampOrders.j1 kj7 t146 (!(bt170.1 == a1_0) || (!(bt170.2 == a1_1))) a0_0 a0_1 a1_0 a1_1 a2_0 a2_1 t144 t145)))))) = some r := H
            have A62 := Aside0.mk A620
            clear A620
            replace H := Option.bind_eq_some_iff.mp H
            obtain ⟨⟨t163, t164⟩, A630, H⟩ := H
            replace H : (if (!(t159 == t163) || (!(t160 == t164))) = true then (dovecotelaw01_StampOrders.j1 kj7 t146 true a0_0 a0_1 a1_0 a1_1 a2_0 a2_1 t144 t145) else ((stamp_Max.f kj7 ([] : List (S25))).bind fun bt165 => (if (!(bt165.1 == 0) || (!(bt165.2 == 0))) = true then (dovecotelaw01_StampOrders.j1 kj7 t146 true a0_0 a0_1 a1_0 a1_1 a2_0 a2_1 t144 t145) else ((stamp_Max.f kj7 (([(⟨a1_0, a1_1⟩ : S25)] : List (S25)))).bind fun bt170 => (dovecotelaw01_StampOrders.j1 kj7 t146 (!(bt170.1 == a1_0) || (!(bt170.2 == a1_1))) a0_0 a0_1 a1_0 a1_1 a2_0 a2_1 t144 t145))))) = some r := H
            have A63 := Aside0.mk A630
            clear A630
            by_cases c64 : (!(t159 == t163) || (!(t160 == t164))) = true
            · rw [if_pos c64] at H
              exact (dovecotelaw01_StampOrders.j1.no H hrt.out).elim
            · rw [if_neg c64] at H
              have c64b0 : (!(t159 == t163) || (!(t160 == t164))) = false := by simpa using c64
              clear c64
              (first | rw [c64b0] | (simp only [i64_w, i32_w]; rw [c64b0]) | skip)
              replace H := Option.bind_eq_some_iff.mp H
              obtain ⟨⟨t165, t166⟩, A720, H⟩ := H
              replace H : (if (!(t165 == 0) || (!(t166 == 0))) = true then (dovecotelaw01_StampOrders.j1 kj7 t146 true a0_0 a0_1 a1_0 a1_1 a2_0 a2_1 t144 t145) else ((stamp_Max.f kj7 (([(⟨a1_0, a1_1⟩ : S25)] : List (S25)))).bind fun bt170 => (dovecotelaw01_StampOrders.j1 kj7 t146 (!(bt170.1 == a1_0) || (!(bt170.2 == a1_1))) a0_0 a0_1 a1_0 a1_1 a2_0 a2_1 t144 t145))) = some r := H
              have A72 := Aside0.mk A720
              clear A720
              by_cases c73 : (!(t165 == 0) || (!(t166 == 0))) = true
              · rw [if_pos c73] at H
                exact (dovecotelaw01_StampOrders.j1.no H hrt.out).elim
              · rw [if_neg c73] at H
                have c73b0 : (!(t165 == 0) || (!(t166 == 0))) = false := by simpa using c73
                clear c73
                obtain ⟨y167, hy167⟩ : ∃ y_ : List (S25), y_ = (([(⟨a1_0, a1_1⟩ : S25)] : List (S25))) := ⟨_, rfl⟩
                replace H : ((stamp_Max.f kj7 y167).bind fun bt170 => (dovecotelaw01_StampOrders.j1 kj7 t146 (!(bt170.1 == a1_0) || (!(bt170.2 == a1_1))) a0_0 a0_1 a1_0 a1_1 a2_0 a2_1 t144 t145)) = some r := by first | (rw [hy167]; with_reducible exact H) | (have H2_ := (Option.bind_some _ _).symm.trans H; rw [hy167]; with_reducible exact H2_) | (have H2_ := (Option.bind_some _ _).symm.trans H; with_reducible exact H2_) | with_reducible exact H | (rw [hy167]; exact H) | exact H
                have Ny167 := Aside0.mk hy167
                clear hy167
                replace H := Option.bind_eq_some_iff.mp H
                obtain ⟨⟨t170, t171⟩, A820, H⟩ := H
                replace H : (dovecotelaw01_StampOrders.j1 kj7 t146 (!(t170 == a1_0) || (!(t171 == a1_1))) a0_0 a0_1 a1_0 a1_1 a2_0 a2_1 t144 t145) = some r := H
                have A82 := Aside0.mk A820
                clear A820
                have H' := Aside0.mk H
                clear H
                try go_wp2
                have n0_ := Aside0.mk (blk_drew BK140.out)
                have n1_ := Aside0.mk (blk_drew BK141.out)
                have n2_ := Aside0.mk (blk_drew BK142.out)
                have n3_ := Aside0.mk (blk_drew BK147.out)
                have n4_ := Aside0.mk (blk_drew BK151.out)
                have n5_ := Aside0.mk (below_drew1 HB.out)
                clear BK140
                clear BK141
                clear BK142
                clear BK147
                clear BK151
                clear HB
                have BK140 := n0_
                have BK141 := n1_
                have BK142 := n2_
                have BK147 := n3_
                have BK151 := n4_
                have HB := n5_
                clear n0_ n1_ n2_ n3_ n4_ n5_
                refine start_ (n := 23) (S := fun w' => w'.cell? ⟨gb140, 0, none⟩ = some (.int .u64 a0_0) ∧ w'.cell? ⟨gb140, 1, none⟩ = some (.int .u32 a0_1) ∧ w'.cell? ⟨gb141, 0, none⟩ = some (.int .u64 a1_0) ∧ w'.cell? ⟨gb141, 1, none⟩ = some (.int .u32 a1_1) ∧ w'.cell? ⟨gb142, 0, none⟩ = some (.int .u64 a2_0) ∧ w'.cell? ⟨gb142, 1, none⟩ = some (.int .u32 a2_1)) (ds := []) #[false, false, false, false, false, false, false, false, false, false, false, false, false, false, false, false, false, false, false, false, false, false, false] (by kernel_rfl) rfl rfl ⟨(blk_cell BK140.out 0).trans rfl, (blk_cell BK140.out 1).trans rfl, (blk_cell BK141.out 0).trans rfl, (blk_cell BK141.out 1).trans rfl, (blk_cell BK142.out 0).trans rfl, (blk_cell BK142.out 1).trans rfl⟩ (fun hHeld => ?_); refine with_tabW dovecotelaw01_StampOrders.tab7 dovecotelaw01_StampOrders.bits7 (fun HT_ HW_ => ?_)
                generalize wc.drew = w83 at BK140 BK141 BK142 BK147 BK151 HB hHeld ⊢
                refine take_ (i := 0) (N := some 47) (v := ?_) (a' := ?_) #[true, false, false, false, false, false, false, false, false, false, false, false, false, false, false, false, false, false, false, false, false, false, false] rfl rfl (take_ofW HT_.out HW_.out (by kernel_rfl)) (fun _ _ _ h => h) (Or.inl ⟨by rfl, ?_⟩) hHeld ?_ ?_
                rotate_left
                · rintro w' ⟨s0, s1, s2, s3, s4, s5⟩
                  go_simp
                  with_reducible rfl
                rotate_left
                · simp only [Act.put, List.setIfInBounds_toArray, List.set_cons_zero, List.set_cons_succ, i64_w, i32_w]
                  rfl
                refine take_ (i := 1) (N := some 48) (v := ?_) (a' := ?_) #[true, true, false, false, false, false, false, false, false, false, false, false, false, false, false, false, false, false, false, false, false, false, false] rfl rfl (take_ofW HT_.out HW_.out (by kernel_rfl)) (fun _ _ _ h => h) (Or.inl ⟨by rfl, ?_⟩) hHeld ?_ ?_
                rotate_left
                · rintro w' ⟨s0, s1, s2, s3, s4, s5⟩
                  go_simp
                  with_reducible rfl
                rotate_left
                · simp only [Act.put, List.setIfInBounds_toArray, List.set_cons_zero, List.set_cons_succ, i64_w, i32_w]
                  rfl
                refine take_ (i := 2) (N := some 49) (v := ?_) (a' := ?_) #[true, true, true, false, false, false, false, false, false, false, false, false, false, false, false, false, false, false, false, false, false, false, false] rfl rfl (take_ofW HT_.out HW_.out (by kernel_rfl)) (fun _ _ _ h => h) (Or.inl ⟨by rfl, ?_⟩) hHeld ?_ ?_
                rotate_left
                · rintro w' ⟨s0, s1, s2, s3, s4, s5⟩
                  go_simp
                  with_reducible rfl
                rotate_left
                · simp only [Act.put, List.setIfInBounds_toArray, List.set_cons_zero, List.set_cons_succ, i64_w, i32_w]
                  rfl
                refine take_ (i := 5) (N := some 52) (v := ?_) (a' := ?_) #[true, true, true, false, false, true, false, false, false, false, false, false, false, false, false, false, false, false, false, false, false, false, false] rfl rfl (take_ofW HT_.out HW_.out (by kernel_rfl)) (fun _ _ _ h => h) (Or.inl ⟨by rfl, ?_⟩) hHeld ?_ ?_
                rotate_left
                · rintro w' ⟨s0, s1, s2, s3, s4, s5⟩
                  go_simp
                  with_reducible rfl
                rotate_left
                · simp only [Act.put, List.setIfInBounds_toArray, List.set_cons_zero, List.set_cons_succ, i64_w, i32_w]
                  rfl
                refine take_ (i := 6) (N := some 53) (v := ?_) (a' := ?_) #[true, true, true, false, false, true, true, false, false, false, false, false, false, false, false, false, false, false, false, false, false, false, false] rfl rfl (take_ofW HT_.out HW_.out (by kernel_rfl)) (fun _ _ _ h => h) (Or.inl ⟨by rfl, ?_⟩) hHeld ?_ ?_
                rotate_left
                · rintro w' ⟨s0, s1, s2, s3, s4, s5⟩
                  go_simp
                  with_reducible rfl
                rotate_left
                · simp only [Act.put, List.setIfInBounds_toArray, List.set_cons_zero, List.set_cons_succ, i64_w, i32_w]
                  rfl
                refine take_ (i := 8) (N := some 55) (v := ?_) (a' := ?_) #[true, true, true, false, false, true, true, false, true, false, false, false, false, false, false, false, false, false, false, false, false, false, false] rfl rfl (take_ofW HT_.out HW_.out (by kernel_rfl)) (fun _ _ _ h => h) (Or.inl ⟨by rfl, ?_⟩) hHeld ?_ ?_
                rotate_left
                · rintro w' ⟨s0, s1, s2, s3, s4, s5⟩
                  go_simp
                  with_reducible rfl
                rotate_left
                · simp only [Act.put, List.setIfInBounds_toArray, List.set_cons_zero, List.set_cons_succ, i64_w, i32_w]
                  rfl
                refine one_ (i := 3) (N := some 50) #[true, true, true, true, false, true, true, false, true, false, false, false, false, false, false, false, false, false, false, false, false, false, false] rfl rfl (one_of HT_.out (by kernel_rfl)) (by decide) (fun K hK => ?_)
                refine Kd.R_lit_step k25 _ 25 ?hg (N := 50) ?hd (xs := ([(⟨a0_0, a0_1⟩ : S25), (⟨a1_0, a1_1⟩ : S25), (⟨a2_0, a2_1⟩ : S25)] : List (S25))) (inner := [.int .u64 a0_0, .int .u32 a0_1, .int .u64 a1_0, .int .u32 a1_1, .int .u64 a2_0, .int .u32 a2_1]) (ok := fun _ => True) (okp := fun _ => True) ?hr ?hp (fun _ hk => hk) trivial (Below.refl _ _) (Nat.le_refl _) (by simp) ?_; (case hd => rfl); (case hg => rfl); (case hr => first | (go_simp; done) | (go_simp; rfl)); (case hp => exact (Reps.c2 (show Kd.M k25 _ _ _ (⟨a0_0, a0_1⟩ : S25) [.int .u64 a0_0, .int .u32 a0_1] from (k25_mkM _ _ _ (⟨a0_0, a0_1⟩ : S25) )) (Reps.c2 (show Kd.M k25 _ _ _ (⟨a1_0, a1_1⟩ : S25) [.int .u64 a1_0, .int .u32 a1_1] from (k25_mkM _ _ _ (⟨a1_0, a1_1⟩ : S25) )) (Reps.c2 (show Kd.M k25 _ _ _ (⟨a2_0, a2_1⟩ : S25) [.int .u64 a2_0, .int .u32 a2_1] from (k25_mkM _ _ _ (⟨a2_0, a2_1⟩ : S25) )) (Reps.none _ _)))))
                intro v157 w84 ho85 hb hg_ hnew_
                clear hg_ hnew_
                (first | rw [← Ny156.out] at ho85 | (simp only [Int.reduceToNat] at ho85; rw [← Ny156.out] at ho85))
                have n0_ := Aside0.mk (Kd.R_lower (Kd.R_newB (Kd.R_newB (Kd.R_newB (Kd.R_newB (Kd.R_newB ho85 (g := gb140) (o := .cells #[.int .u64 a0_0, .int .u32 a0_1] 25 (0, 0)) (by (with_reducible repeat (first | refine blk_drewN ?_ _ | refine blk_drew ?_ | refine blk_alloc ?_ _)); exact BK140.out)) (g := gb141) (o := .cells #[.int .u64 a1_0, .int .u32 a1_1] 25 (0, 0)) (by (with_reducible repeat (first | refine blk_drewN ?_ _ | refine blk_drew ?_ | refine blk_alloc ?_ _)); exact BK141.out)) (g := gb142) (o := .cells #[.int .u64 a2_0, .int .u32 a2_1] 25 (0, 0)) (by (with_reducible repeat (first | refine blk_drewN ?_ _ | refine blk_drew ?_ | refine blk_alloc ?_ _)); exact BK142.out)) (g := gb147) (o := .cells #[.int .u64 t144, .int .u32 t145] 25 (0, 0)) (by (with_reducible repeat (first | refine blk_drewN ?_ _ | refine blk_drew ?_ | refine blk_alloc ?_ _)); exact BK147.out)) (g := gb151) (o := .cells #[.int .u64 t148, .int .u32 t149] 25 (0, 0)) (by (with_reducible repeat (first | refine blk_drewN ?_ _ | refine blk_drew ?_ | refine blk_alloc ?_ _)); exact BK151.out)) (below_size (by repeat (first | (with_reducible first | exact HB.out | apply below_alloc | apply pw_below_drewN | apply below_drew1 | refine below_set ?_ GE140.out | refine below_set ?_ GE141.out | refine below_set ?_ GE142.out | refine below_set ?_ GE147.out | refine below_set ?_ GE151.out) | exact HB.out))))
                have n1_ := Aside0.mk (blk_below (g := gb140) (o := .cells #[.int .u64 a0_0, .int .u32 a0_1] 25 (0, 0)) (by (with_reducible repeat (first | refine blk_drewN ?_ _ | refine blk_drew ?_ | refine blk_alloc ?_ _)); exact BK140.out) hb)
                have n2_ := Aside0.mk (blk_below (g := gb141) (o := .cells #[.int .u64 a1_0, .int .u32 a1_1] 25 (0, 0)) (by (with_reducible repeat (first | refine blk_drewN ?_ _ | refine blk_drew ?_ | refine blk_alloc ?_ _)); exact BK141.out) hb)
                have n3_ := Aside0.mk (blk_below (g := gb142) (o := .cells #[.int .u64 a2_0, .int .u32 a2_1] 25 (0, 0)) (by (with_reducible repeat (first | refine blk_drewN ?_ _ | refine blk_drew ?_ | refine blk_alloc ?_ _)); exact BK142.out) hb)
                have n4_ := Aside0.mk (blk_below (g := gb147) (o := .cells #[.int .u64 t144, .int .u32 t145] 25 (0, 0)) (by (with_reducible repeat (first | refine blk_drewN ?_ _ | refine blk_drew ?_ | refine blk_alloc ?_ _)); exact BK147.out) hb)
                have n5_ := Aside0.mk (blk_below (g := gb151) (o := .cells #[.int .u64 t148, .int .u32 t149] 25 (0, 0)) (by (with_reducible repeat (first | refine blk_drewN ?_ _ | refine blk_drew ?_ | refine blk_alloc ?_ _)); exact BK151.out) hb)
                have n6_ := Aside0.mk (below_step (by repeat (first | (with_reducible first | exact HB.out | apply below_alloc | apply pw_below_drewN | apply below_drew1 | refine below_set ?_ GE140.out | refine below_set ?_ GE141.out | refine below_set ?_ GE142.out | refine below_set ?_ GE147.out | refine below_set ?_ GE151.out) | exact HB.out)) hb)
                clear BK140
                clear BK141
                clear BK142
                clear BK147
                clear BK151
                clear HB
                have HO158 := n0_
                have BK140 := n1_
                have BK141 := n2_
                have BK142 := n3_
                have BK147 := n4_
                have BK151 := n5_
                have HB := n6_
                clear n0_ n1_ n2_ n3_ n4_ n5_ n6_
                clear hb ho85
                obtain ⟨Ao86, co86, eo86⟩ := Kd.R_slice HO158.out
                (first | subst eo86 | (injection eo86 with f1_ f2_ f3_; have f4_ := f1_.symm; have f5_ := f3_.symm; clear f1_ f2_ f3_; subst f4_; subst f5_))
                refine hK.out _ _ ⟨(blk_cell BK140.out 0).trans rfl, (blk_cell BK140.out 1).trans rfl, (blk_cell BK141.out 0).trans rfl, (blk_cell BK141.out 1).trans rfl, (blk_cell BK142.out 0).trans rfl, (blk_cell BK142.out 1).trans rfl⟩ (fun hHeld => ?_)
                clear hK K
                refine norm_ (a' := ?_) ?_ ?_
                rotate_left
                · show Act.put _ (some 50) _ = _
                  simp only [Act.put, List.setIfInBounds_toArray, List.set_cons_zero, List.set_cons_succ, i64_w, i32_w]
                  rfl
                refine one_ (i := 4) (N := some 51) #[true, true, true, true, true, true, true, false, true, false, false, false, false, false, false, false, false, false, false, false, false, false, false] rfl rfl (one_of HT_.out (by kernel_rfl)) (by decide) (fun K hK => ?_)
                refine goes_ Tryd.func15 (by kernel_rfl) rfl #[.slice Ao86 y156.length co86] (by rfl) rfl rfl (by (try simp only [List.map_toArray, List.map_cons, List.map_nil]); first | done | rfl | (simp only [List.length_drop, List.length_take]; rfl)) ?_
                with_reducible refine (stamp_Max.calls kj7 _ _ y156 t159 t160 _ ?side1 ?side2 A61.out).mono ?_
                (case side1 => repeat (first | exact (Kd.R_reads' HO158.out).2.2 | (with_reducible refine Kd.C_alloc ?_ _) | (with_reducible refine Kd.C_drewN ?_ _) | (with_reducible refine Kd.C_drew ?_)))
                (case side2 => exact (Kd.R_reads' HO158.out).2.1)
                rintro e w87 ⟨rfl, hb⟩
                refine ⟨_, rfl, ?_⟩
                have n0_ := Aside0.mk (Kd.R_below (by (with_reducible repeat (first | apply Kd.R_alloc | apply Kd.R_drewN | apply Kd.R_drew)); exact HO158.out) hb)
                have n1_ := Aside0.mk (blk_below (g := gb140) (o := .cells #[.int .u64 a0_0, .int .u32 a0_1] 25 (0, 0)) (by (with_reducible repeat (first | refine blk_drewN ?_ _ | refine blk_drew ?_ | refine blk_alloc ?_ _)); exact BK140.out) hb)
                have n2_ := Aside0.mk (blk_below (g := gb141) (o := .cells #[.int .u64 a1_0, .int .u32 a1_1] 25 (0, 0)) (by (with_reducible repeat (first | refine blk_drewN ?_ _ | refine blk_drew ?_ | refine blk_alloc ?_ _)); exact BK141.out) hb)
                have n3_ := Aside0.mk (blk_below (g := gb142) (o := .cells #[.int .u64 a2_0, .int .u32 a2_1] 25 (0, 0)) (by (with_reducible repeat (first | refine blk_drewN ?_ _ | refine blk_drew ?_ | refine blk_alloc ?_ _)); exact BK142.out) hb)
                have n4_ := Aside0.mk (blk_below (g := gb147) (o := .cells #[.int .u64 t144, .int .u32 t145] 25 (0, 0)) (by (with_reducible repeat (first | refine blk_drewN ?_ _ | refine blk_drew ?_ | refine blk_alloc ?_ _)); exact BK147.out) hb)
                have n5_ := Aside0.mk (blk_below (g := gb151) (o := .cells #[.int .u64 t148, .int .u32 t149] 25 (0, 0)) (by (with_reducible repeat (first | refine blk_drewN ?_ _ | refine blk_drew ?_ | refine blk_alloc ?_ _)); exact BK151.out) hb)
                have n6_ := Aside0.mk (below_step (by repeat (first | (with_reducible first | exact HB.out | apply below_alloc | apply pw_below_drewN | apply below_drew1 | refine below_set ?_ GE140.out | refine below_set ?_ GE141.out | refine below_set ?_ GE142.out | refine below_set ?_ GE147.out | refine below_set ?_ GE151.out) | exact HB.out)) hb)
                clear HO158
                clear BK140
                clear BK141
                clear BK142
                clear BK147
                clear BK151
                clear HB
                have HO158 := n0_
                have BK140 := n1_
                have BK141 := n2_
                have BK142 := n3_
                have BK147 := n4_
                have BK151 := n5_
                have HB := n6_
                clear n0_ n1_ n2_ n3_ n4_ n5_ n6_
                (try clear hb)
                (try clear hb2)
                (try clear hk)
                (try clear hi)
                refine hK.out _ _ ⟨(blk_cell BK140.out 0).trans rfl, (blk_cell BK140.out 1).trans rfl, (blk_cell BK141.out 0).trans rfl, (blk_cell BK141.out 1).trans rfl, (blk_cell BK142.out 0).trans rfl, (blk_cell BK142.out 1).trans rfl⟩ (fun hHeld => ?_)
                clear hK K
                refine norm_ (a' := ?_) ?_ ?_
                rotate_left
                · show Act.put _ (some 51) _ = _
                  simp only [Act.put, List.setIfInBounds_toArray, List.set_cons_zero, List.set_cons_succ, i64_w, i32_w]
                  rfl
                refine one_ (i := 7) (N := some 54) #[true, true, true, true, true, true, true, true, true, false, false, false, false, false, false, false, false, false, false, false, false, false, false] rfl rfl (one_of HT_.out (by kernel_rfl)) (by decide) (fun K hK => ?_)
                refine goes_ Tryd.func16 (by kernel_rfl) rfl #[.agg #[.int .u64 a0_0, .int .u32 a0_1], .agg #[.int .u64 a1_0, .int .u32 a1_1]] (by rfl) rfl rfl (by (try simp only [List.map_toArray, List.map_cons, List.map_nil]); first | done | rfl | (simp only [List.length_drop, List.length_take]; rfl)) ?_
                with_reducible refine (dovecoteref01_Max.calls a0_0 a0_1 a1_0 a1_1 t161 t162 _ A62.out).mono ?_
                rintro e w88 ⟨rfl, hb⟩
                refine ⟨_, rfl, ?_⟩
                have n0_ := Aside0.mk (Kd.R_below (by (with_reducible repeat (first | apply Kd.R_alloc | apply Kd.R_drewN | apply Kd.R_drew)); exact HO158.out) hb)
                have n1_ := Aside0.mk (blk_below (g := gb140) (o := .cells #[.int .u64 a0_0, .int .u32 a0_1] 25 (0, 0)) (by (with_reducible repeat (first | refine blk_drewN ?_ _ | refine blk_drew ?_ | refine blk_alloc ?_ _)); exact BK140.out) hb)
                have n2_ := Aside0.mk (blk_below (g := gb141) (o := .cells #[.int .u64 a1_0, .int .u32 a1_1] 25 (0, 0)) (by (with_reducible repeat (first | refine blk_drewN ?_ _ | refine blk_drew ?_ | refine blk_alloc ?_ _)); exact BK141.out) hb)
                have n3_ := Aside0.mk (blk_below (g := gb142) (o := .cells #[.int .u64 a2_0, .int .u32 a2_1] 25 (0, 0)) (by (with_reducible repeat (first | refine blk_drewN ?_ _ | refine blk_drew ?_ | refine blk_alloc ?_ _)); exact BK142.out) hb)
                have n4_ := Aside0.mk (blk_below (g := gb147) (o := .cells #[.int .u64 t144, .int .u32 t145] 25 (0, 0)) (by (with_reducible repeat (first | refine blk_drewN ?_ _ | refine blk_drew ?_ | refine blk_alloc ?_ _)); exact BK147.out) hb)
                have n5_ := Aside0.mk (blk_below (g := gb151) (o := .cells #[.int .u64 t148, .int .u32 t149] 25 (0, 0)) (by (with_reducible repeat (first | refine blk_drewN ?_ _ | refine blk_drew ?_ | refine blk_alloc ?_ _)); exact BK151.out) hb)
                have n6_ := Aside0.mk (below_step (by repeat (first | (with_reducible first | exact HB.out | apply below_alloc | apply pw_below_drewN | apply below_drew1 | refine below_set ?_ GE140.out | refine below_set ?_ GE141.out | refine below_set ?_ GE142.out | refine below_set ?_ GE147.out | refine below_set ?_ GE151.out) | exact HB.out)) hb)
                clear HO158
                clear BK140
                clear BK141
                clear BK142
                clear BK147
                clear BK151
                clear HB
                have HO158 := n0_
                have BK140 := n1_
                have BK141 := n2_
                have BK142 := n3_
                have BK147 := n4_
                have BK151 := n5_
                have HB := n6_
                clear n0_ n1_ n2_ n3_ n4_ n5_ n6_
                (try clear hb)
                (try clear hb2)
                (try clear hk)
                (try clear hi)
                refine hK.out _ _ ⟨(blk_cell BK140.out 0).trans rfl, (blk_cell BK140.out 1).trans rfl, (blk_cell BK141.out 0).trans rfl, (blk_cell BK141.out 1).trans rfl, (blk_cell BK142.out 0).trans rfl, (blk_cell BK142.out 1).trans rfl⟩ (fun hHeld => ?_)
                clear hK K
                refine norm_ (a' := ?_) ?_ ?_
                rotate_left
                · show Act.put _ (some 54) _ = _
                  simp only [Act.put, List.setIfInBounds_toArray, List.set_cons_zero, List.set_cons_succ, i64_w, i32_w]
                  rfl
                refine one_ (i := 9) (N := some 56) #[true, true, true, true, true, true, true, true, true, true, false, false, false, false, false, false, false, false, false, false, false, false, false] rfl rfl (one_of HT_.out (by kernel_rfl)) (by decide) (fun K hK => ?_)
                refine goes_ Tryd.func16 (by kernel_rfl) rfl #[.agg #[.int .u64 t161, .int .u32 t162], .agg #[.int .u64 a2_0, .int .u32 a2_1]] (by rfl) rfl rfl (by (try simp only [List.map_toArray, List.map_cons, List.map_nil]); first | done | rfl | (simp only [List.length_drop, List.length_take]; rfl)) ?_
                with_reducible refine (dovecoteref01_Max.calls t161 t162 a2_0 a2_1 t163 t164 _ A63.out).mono ?_
                rintro e w89 ⟨rfl, hb⟩
                refine ⟨_, rfl, ?_⟩
                have n0_ := Aside0.mk (Kd.R_below (by (with_reducible repeat (first | apply Kd.R_alloc | apply Kd.R_drewN | apply Kd.R_drew)); exact HO158.out) hb)
                have n1_ := Aside0.mk (blk_below (g := gb140) (o := .cells #[.int .u64 a0_0, .int .u32 a0_1] 25 (0, 0)) (by (with_reducible repeat (first | refine blk_drewN ?_ _ | refine blk_drew ?_ | refine blk_alloc ?_ _)); exact BK140.out) hb)
                have n2_ := Aside0.mk (blk_below (g := gb141) (o := .cells #[.int .u64 a1_0, .int .u32 a1_1] 25 (0, 0)) (by (with_reducible repeat (first | refine blk_drewN ?_ _ | refine blk_drew ?_ | refine blk_alloc ?_ _)); exact BK141.out) hb)
                have n3_ := Aside0.mk (blk_below (g := gb142) (o := .cells #[.int .u64 a2_0, .int .u32 a2_1] 25 (0, 0)) (by (with_reducible repeat (first | refine blk_drewN ?_ _ | refine blk_drew ?_ | refine blk_alloc ?_ _)); exact BK142.out) hb)
                have n4_ := Aside0.mk (blk_below (g := gb147) (o := .cells #[.int .u64 t144, .int .u32 t145] 25 (0, 0)) (by (with_reducible repeat (first | refine blk_drewN ?_ _ | refine blk_drew ?_ | refine blk_alloc ?_ _)); exact BK147.out) hb)
                have n5_ := Aside0.mk (blk_below (g := gb151) (o := .cells #[.int .u64 t148, .int .u32 t149] 25 (0, 0)) (by (with_reducible repeat (first | refine blk_drewN ?_ _ | refine blk_drew ?_ | refine blk_alloc ?_ _)); exact BK151.out) hb)
                have n6_ := Aside0.mk (below_step (by repeat (first | (with_reducible first | exact HB.out | apply below_alloc | apply pw_below_drewN | apply below_drew1 | refine below_set ?_ GE140.out | refine below_set ?_ GE141.out | refine below_set ?_ GE142.out | refine below_set ?_ GE147.out | refine below_set ?_ GE151.out) | exact HB.out)) hb)
                clear HO158
                clear BK140
                clear BK141
                clear BK142
                clear BK147
                clear BK151
                clear HB
                have HO158 := n0_
                have BK140 := n1_
                have BK141 := n2_
                have BK142 := n3_
                have BK147 := n4_
                have BK151 := n5_
                have HB := n6_
                clear n0_ n1_ n2_ n3_ n4_ n5_ n6_
                (try clear hb)
                (try clear hb2)
                (try clear hk)
                (try clear hi)
                refine hK.out _ _ ⟨(blk_cell BK140.out 0).trans rfl, (blk_cell BK140.out 1).trans rfl, (blk_cell BK141.out 0).trans rfl, (blk_cell BK141.out 1).trans rfl, (blk_cell BK142.out 0).trans rfl, (blk_cell BK142.out 1).trans rfl⟩ (fun hHeld => ?_)
                clear hK K
                refine norm_ (a' := ?_) ?_ ?_
                rotate_left
                · show Act.put _ (some 56) _ = _
                  simp only [Act.put, List.setIfInBounds_toArray, List.set_cons_zero, List.set_cons_succ, i64_w, i32_w]
                  rfl
                refine pure_ (i := 10) (N := some 57) (v := ?_) (a' := ?_) #[true, true, true, true, true, true, true, true, true, true, true, false, false, false, false, false, false, false, false, false, false, false, false] rfl rfl (any_of HT_.out (by kernel_rfl)) (fun _ _ _ h => h) (Or.inl ⟨by rfl, ?_⟩) ?_ ?_
                rotate_left
                · intro w'
                  go_simp
                  with_reducible rfl
                rotate_left
                · simp only [Act.put, List.setIfInBounds_toArray, List.set_cons_zero, List.set_cons_succ, i64_w, i32_w]
                  rfl
                refine pure_ (i := 11) (N := some 58) (v := ?_) (a' := ?_) #[true, true, true, true, true, true, true, true, true, true, true, true, false, false, false, false, false, false, false, false, false, false, false] rfl rfl (any_of HT_.out (by kernel_rfl)) (fun _ _ _ h => h) (Or.inl ⟨by rfl, ?_⟩) ?_ ?_
                rotate_left
                · intro w'
                  go_simp
                  with_reducible rfl
                rotate_left
                · simp only [Act.put, List.setIfInBounds_toArray, List.set_cons_zero, List.set_cons_succ, i64_w, i32_w]
                  rfl
                refine pure_ (i := 13) (N := some 60) (v := ?_) (a' := ?_) #[true, true, true, true, true, true, true, true, true, true, true, true, false, true, false, false, false, false, false, false, false, false, false] rfl rfl (any_of HT_.out (by kernel_rfl)) (fun _ _ _ h => h) (Or.inl ⟨by rfl, ?_⟩) ?_ ?_
                rotate_left
                · intro w'
                  go_simp
                  with_reducible rfl
                rotate_left
                · simp only [Act.put, List.setIfInBounds_toArray, List.set_cons_zero, List.set_cons_succ, i64_w, i32_w]
                  rfl
                refine one_ (i := 12) (N := some 59) #[true, true, true, true, true, true, true, true, true, true, true, true, true, true, false, false, false, false, false, false, false, false, false] rfl rfl (one_of HT_.out (by kernel_rfl)) (by decide) (fun K hK => ?_)
                refine goes_ Tryd.func15 (by kernel_rfl) rfl #[.slice none 0 0] (by rfl) rfl rfl (by (try simp only [List.map_toArray, List.map_cons, List.map_nil]); first | done | rfl | (simp only [List.length_drop, List.length_take]; rfl)) ?_
                refine (stamp_Max.calls kj7 _ _ ([] : List (S25)) t165 t166 _ ?side1 ?side2 A72.out).mono ?_
                (case side1 => exact Kd.C_nil _ _)
                (case side2 => exact Nat.le_refl _)
                rintro e w90 ⟨rfl, hb⟩
                refine ⟨_, rfl, ?_⟩
                have n0_ := Aside0.mk (Kd.R_below (by (with_reducible repeat (first | apply Kd.R_alloc | apply Kd.R_drewN | apply Kd.R_drew)); exact HO158.out) hb)
                have n1_ := Aside0.mk (blk_below (g := gb140) (o := .cells #[.int .u64 a0_0, .int .u32 a0_1] 25 (0, 0)) (by (with_reducible repeat (first | refine blk_drewN ?_ _ | refine blk_drew ?_ | refine blk_alloc ?_ _)); exact BK140.out) hb)
                have n2_ := Aside0.mk (blk_below (g := gb141) (o := .cells #[.int .u64 a1_0, .int .u32 a1_1] 25 (0, 0)) (by (with_reducible repeat (first | refine blk_drewN ?_ _ | refine blk_drew ?_ | refine blk_alloc ?_ _)); exact BK141.out) hb)
                have n3_ := Aside0.mk (blk_below (g := gb142) (o := .cells #[.int .u64 a2_0, .int .u32 a2_1] 25 (0, 0)) (by (with_reducible repeat (first | refine blk_drewN ?_ _ | refine blk_drew ?_ | refine blk_alloc ?_ _)); exact BK142.out) hb)
                have n4_ := Aside0.mk (blk_below (g := gb147) (o := .cells #[.int .u64 t144, .int .u32 t145] 25 (0, 0)) (by (with_reducible repeat (first | refine blk_drewN ?_ _ | refine blk_drew ?_ | refine blk_alloc ?_ _)); exact BK147.out) hb)
                have n5_ := Aside0.mk (blk_below (g := gb151) (o := .cells #[.int .u64 t148, .int .u32 t149] 25 (0, 0)) (by (with_reducible repeat (first | refine blk_drewN ?_ _ | refine blk_drew ?_ | refine blk_alloc ?_ _)); exact BK151.out) hb)
                have n6_ := Aside0.mk (below_step (by repeat (first | (with_reducible first | exact HB.out | apply below_alloc | apply pw_below_drewN | apply below_drew1 | refine below_set ?_ GE140.out | refine below_set ?_ GE141.out | refine below_set ?_ GE142.out | refine below_set ?_ GE147.out | refine below_set ?_ GE151.out) | exact HB.out)) hb)
                clear HO158
                clear BK140
                clear BK141
                clear BK142
                clear BK147
                clear BK151
                clear HB
                have HO158 := n0_
                have BK140 := n1_
                have BK141 := n2_
                have BK142 := n3_
                have BK147 := n4_
                have BK151 := n5_
                have HB := n6_
                clear n0_ n1_ n2_ n3_ n4_ n5_ n6_
                (try clear hb)
                (try clear hb2)
                (try clear hk)
                (try clear hi)
                refine hK.out _ _ ⟨(blk_cell BK140.out 0).trans rfl, (blk_cell BK140.out 1).trans rfl, (blk_cell BK141.out 0).trans rfl, (blk_cell BK141.out 1).trans rfl, (blk_cell BK142.out 0).trans rfl, (blk_cell BK142.out 1).trans rfl⟩ (fun hHeld => ?_)
                clear hK K
                refine norm_ (a' := ?_) ?_ ?_
                rotate_left
                · show Act.put _ (some 59) _ = _
                  simp only [Act.put, List.setIfInBounds_toArray, List.set_cons_zero, List.set_cons_succ, i64_w, i32_w]
                  rfl
                refine pure_ (i := 14) (N := some 61) (v := ?_) (a' := ?_) #[true, true, true, true, true, true, true, true, true, true, true, true, true, true, true, false, false, false, false, false, false, false, false] rfl rfl (any_of HT_.out (by kernel_rfl)) (fun _ _ _ h => h) (Or.inl ⟨by rfl, ?_⟩) ?_ ?_
                rotate_left
                · intro w'
                  go_simp
                  with_reducible rfl
                rotate_left
                · simp only [Act.put, List.setIfInBounds_toArray, List.set_cons_zero, List.set_cons_succ, i64_w, i32_w]
                  rfl
                refine pure_ (i := 15) (N := some 62) (v := ?_) (a' := ?_) #[true, true, true, true, true, true, true, true, true, true, true, true, true, true, true, true, false, false, false, false, false, false, false] rfl rfl (any_of HT_.out (by kernel_rfl)) (fun _ _ _ h => h) (Or.inl ⟨by rfl, ?_⟩) ?_ ?_
                rotate_left
                · intro w'
                  go_simp
                  with_reducible rfl
                rotate_left
                · simp only [Act.put, List.setIfInBounds_toArray, List.set_cons_zero, List.set_cons_succ, i64_w, i32_w]
                  rfl
                refine pure_ (i := 16) (N := some 63) (v := ?_) (a' := ?_) #[true, true, true, true, true, true, true, true, true, true, true, true, true, true, true, true, true, false, false, false, false, false, false] rfl rfl (any_of HT_.out (by kernel_rfl)) (fun _ _ _ h => h) (Or.inl ⟨by rfl, ?_⟩) ?_ ?_
                rotate_left
                · intro w'
                  go_simp
                  with_reducible rfl
                rotate_left
                · simp only [Act.put, List.setIfInBounds_toArray, List.set_cons_zero, List.set_cons_succ, i64_w, i32_w]
                  rfl
                refine take_ (i := 17) (N := some 64) (v := ?_) (a' := ?_) #[true, true, true, true, true, true, true, true, true, true, true, true, true, true, true, true, true, true, false, false, false, false, false] rfl rfl (take_ofW HT_.out HW_.out (by kernel_rfl)) (fun _ _ _ h => h) (Or.inl ⟨by rfl, ?_⟩) hHeld ?_ ?_
                rotate_left
                · rintro w' ⟨s0, s1, s2, s3, s4, s5⟩
                  go_simp
                  with_reducible rfl
                rotate_left
                · simp only [Act.put, List.setIfInBounds_toArray, List.set_cons_zero, List.set_cons_succ, i64_w, i32_w]
                  rfl
                refine take_ (i := 20) (N := some 67) (v := ?_) (a' := ?_) #[true, true, true, true, true, true, true, true, true, true, true, true, true, true, true, true, true, true, false, false, true, false, false] rfl rfl (take_ofW HT_.out HW_.out (by kernel_rfl)) (fun _ _ _ h => h) (Or.inl ⟨by rfl, ?_⟩) hHeld ?_ ?_
                rotate_left
                · rintro w' ⟨s0, s1, s2, s3, s4, s5⟩
                  go_simp
                  with_reducible rfl
                rotate_left
                · simp only [Act.put, List.setIfInBounds_toArray, List.set_cons_zero, List.set_cons_succ, i64_w, i32_w]
                  rfl
                refine one_ (i := 18) (N := some 65) #[true, true, true, true, true, true, true, true, true, true, true, true, true, true, true, true, true, true, true, false, true, false, false] rfl rfl (one_of HT_.out (by kernel_rfl)) (by decide) (fun K hK => ?_)
                refine Kd.R_lit_step k25 _ 25 ?hg (N := 65) ?hd (xs := ([(⟨a1_0, a1_1⟩ : S25)] : List (S25))) (inner := [.int .u64 a1_0, .int .u32 a1_1]) (ok := fun _ => True) (okp := fun _ => True) ?hr ?hp (fun _ hk => hk) trivial (Below.refl _ _) (Nat.le_refl _) (by simp) ?_; (case hd => rfl); (case hg => rfl); (case hr => first | (go_simp; done) | (go_simp; rfl)); (case hp => exact (Reps.c2 (show Kd.M k25 _ _ _ (⟨a1_0, a1_1⟩ : S25) [.int .u64 a1_0, .int .u32 a1_1] from (k25_mkM _ _ _ (⟨a1_0, a1_1⟩ : S25) )) (Reps.none _ _)))
                intro v168 w91 ho92 hb hg_ hnew_
                clear hg_ hnew_
                (first | rw [← Ny167.out] at ho92 | (simp only [Int.reduceToNat] at ho92; rw [← Ny167.out] at ho92))
                have n0_ := Aside0.mk (Kd.R_elder' (by (with_reducible repeat (first | apply Kd.R_alloc | apply Kd.R_drewN | apply Kd.R_drew)); exact HO158.out) (Kd.R_base ho92) hb)
                have n1_ := Aside0.mk (Kd.R_lower (Kd.R_newB (Kd.R_newB (Kd.R_newB (Kd.R_newB (Kd.R_newB (Kd.R_new' ho92 (Kd.R_lt (by (with_reducible repeat (first | apply Kd.R_alloc | apply Kd.R_drewN | apply Kd.R_drew)); exact HO158.out))) (g := gb140) (o := .cells #[.int .u64 a0_0, .int .u32 a0_1] 25 (0, 0)) (by (with_reducible repeat (first | refine blk_drewN ?_ _ | refine blk_drew ?_ | refine blk_alloc ?_ _)); exact BK140.out)) (g := gb141) (o := .cells #[.int .u64 a1_0, .int .u32 a1_1] 25 (0, 0)) (by (with_reducible repeat (first | refine blk_drewN ?_ _ | refine blk_drew ?_ | refine blk_alloc ?_ _)); exact BK141.out)) (g := gb142) (o := .cells #[.int .u64 a2_0, .int .u32 a2_1] 25 (0, 0)) (by (with_reducible repeat (first | refine blk_drewN ?_ _ | refine blk_drew ?_ | refine blk_alloc ?_ _)); exact BK142.out)) (g := gb147) (o := .cells #[.int .u64 t144, .int .u32 t145] 25 (0, 0)) (by (with_reducible repeat (first | refine blk_drewN ?_ _ | refine blk_drew ?_ | refine blk_alloc ?_ _)); exact BK147.out)) (g := gb151) (o := .cells #[.int .u64 t148, .int .u32 t149] 25 (0, 0)) (by (with_reducible repeat (first | refine blk_drewN ?_ _ | refine blk_drew ?_ | refine blk_alloc ?_ _)); exact BK151.out)) (below_size (by repeat (first | (with_reducible first | exact HB.out | apply below_alloc | apply pw_below_drewN | apply below_drew1 | refine below_set ?_ GE140.out | refine below_set ?_ GE141.out | refine below_set ?_ GE142.out | refine below_set ?_ GE147.out | refine below_set ?_ GE151.out) | exact HB.out))))
                have n2_ := Aside0.mk (blk_below (g := gb140) (o := .cells #[.int .u64 a0_0, .int .u32 a0_1] 25 (0, 0)) (by (with_reducible repeat (first | refine blk_drewN ?_ _ | refine blk_drew ?_ | refine blk_alloc ?_ _)); exact BK140.out) hb)
                have n3_ := Aside0.mk (blk_below (g := gb141) (o := .cells #[.int .u64 a1_0, .int .u32 a1_1] 25 (0, 0)) (by (with_reducible repeat (first | refine blk_drewN ?_ _ | refine blk_drew ?_ | refine blk_alloc ?_ _)); exact BK141.out) hb)
                have n4_ := Aside0.mk (blk_below (g := gb142) (o := .cells #[.int .u64 a2_0, .int .u32 a2_1] 25 (0, 0)) (by (with_reducible repeat (first | refine blk_drewN ?_ _ | refine blk_drew ?_ | refine blk_alloc ?_ _)); exact BK142.out) hb)
                have n5_ := Aside0.mk (blk_below (g := gb147) (o := .cells #[.int .u64 t144, .int .u32 t145] 25 (0, 0)) (by (with_reducible repeat (first | refine blk_drewN ?_ _ | refine blk_drew ?_ | refine blk_alloc ?_ _)); exact BK147.out) hb)
                have n6_ := Aside0.mk (blk_below (g := gb151) (o := .cells #[.int .u64 t148, .int .u32 t149] 25 (0, 0)) (by (with_reducible repeat (first | refine blk_drewN ?_ _ | refine blk_drew ?_ | refine blk_alloc ?_ _)); exact BK151.out) hb)
                have n7_ := Aside0.mk (below_step (by repeat (first | (with_reducible first | exact HB.out | apply below_alloc | apply pw_below_drewN | apply below_drew1 | refine below_set ?_ GE140.out | refine below_set ?_ GE141.out | refine below_set ?_ GE142.out | refine below_set ?_ GE147.out | refine below_set ?_ GE151.out) | exact HB.out)) hb)
                clear HO158
                clear BK140
                clear BK141
                clear BK142
                clear BK147
                clear BK151
                clear HB
                have HO158 := n0_
                have HO169 := n1_
                have BK140 := n2_
                have BK141 := n3_
                have BK142 := n4_
                have BK147 := n5_
                have BK151 := n6_
                have HB := n7_
                clear n0_ n1_ n2_ n3_ n4_ n5_ n6_ n7_
                clear hb ho92
                obtain ⟨Ao93, co93, eo93⟩ := Kd.R_slice HO169.out
                (first | subst eo93 | (injection eo93 with f1_ f2_ f3_; have f4_ := f1_.symm; have f5_ := f3_.symm; clear f1_ f2_ f3_; subst f4_; subst f5_))
                refine hK.out _ _ ⟨(blk_cell BK140.out 0).trans rfl, (blk_cell BK140.out 1).trans rfl, (blk_cell BK141.out 0).trans rfl, (blk_cell BK141.out 1).trans rfl, (blk_cell BK142.out 0).trans rfl, (blk_cell BK142.out 1).trans rfl⟩ (fun hHeld => ?_)
                clear hK K
                refine norm_ (a' := ?_) ?_ ?_
                rotate_left
                · show Act.put _ (some 65) _ = _
                  simp only [Act.put, List.setIfInBounds_toArray, List.set_cons_zero, List.set_cons_succ, i64_w, i32_w]
                  rfl
                refine one_ (i := 19) (N := some 66) #[true, true, true, true, true, true, true, true, true, true, true, true, true, true, true, true, true, true, true, true, true, false, false] rfl rfl (one_of HT_.out (by kernel_rfl)) (by decide) (fun K hK => ?_)
                refine goes_ Tryd.func15 (by kernel_rfl) rfl #[.slice Ao93 y167.length co93] (by rfl) rfl rfl (by (try simp only [List.map_toArray, List.map_cons, List.map_nil]); first | done | rfl | (simp only [List.length_drop, List.length_take]; rfl)) ?_
                with_reducible refine (stamp_Max.calls kj7 _ _ y167 t170 t171 _ ?side1 ?side2 A82.out).mono ?_
                (case side1 => repeat (first | exact (Kd.R_reads' HO169.out).2.2 | (with_reducible refine Kd.C_alloc ?_ _) | (with_reducible refine Kd.C_drewN ?_ _) | (with_reducible refine Kd.C_drew ?_)))
                (case side2 => exact (Kd.R_reads' HO169.out).2.1)
                rintro e w94 ⟨rfl, hb⟩
                refine ⟨_, rfl, ?_⟩
                have n0_ := Aside0.mk (Kd.R_below (by (with_reducible repeat (first | apply Kd.R_alloc | apply Kd.R_drewN | apply Kd.R_drew)); exact HO158.out) hb)
                have n1_ := Aside0.mk (Kd.R_below (by (with_reducible repeat (first | apply Kd.R_alloc | apply Kd.R_drewN | apply Kd.R_drew)); exact HO169.out) hb)
                have n2_ := Aside0.mk (blk_below (g := gb140) (o := .cells #[.int .u64 a0_0, .int .u32 a0_1] 25 (0, 0)) (by (with_reducible repeat (first | refine blk_drewN ?_ _ | refine blk_drew ?_ | refine blk_alloc ?_ _)); exact BK140.out) hb)
                have n3_ := Aside0.mk (blk_below (g := gb141) (o := .cells #[.int .u64 a1_0, .int .u32 a1_1] 25 (0, 0)) (by (with_reducible repeat (first | refine blk_drewN ?_ _ | refine blk_drew ?_ | refine blk_alloc ?_ _)); exact BK141.out) hb)
                have n4_ := Aside0.mk (blk_below (g := gb142) (o := .cells #[.int .u64 a2_0, .int .u32 a2_1] 25 (0, 0)) (by (with_reducible repeat (first | refine blk_drewN ?_ _ | refine blk_drew ?_ | refine blk_alloc ?_ _)); exact BK142.out) hb)
                have n5_ := Aside0.mk (blk_below (g := gb147) (o := .cells #[.int .u64 t144, .int .u32 t145] 25 (0, 0)) (by (with_reducible repeat (first | refine blk_drewN ?_ _ | refine blk_drew ?_ | refine blk_alloc ?_ _)); exact BK147.out) hb)
                have n6_ := Aside0.mk (blk_below (g := gb151) (o := .cells #[.int .u64 t148, .int .u32 t149] 25 (0, 0)) (by (with_reducible repeat (first | refine blk_drewN ?_ _ | refine blk_drew ?_ | refine blk_alloc ?_ _)); exact BK151.out) hb)
                have n7_ := Aside0.mk (below_step (by repeat (first | (with_reducible first | exact HB.out | apply below_alloc | apply pw_below_drewN | apply below_drew1 | refine below_set ?_ GE140.out | refine below_set ?_ GE141.out | refine below_set ?_ GE142.out | refine below_set ?_ GE147.out | refine below_set ?_ GE151.out) | exact HB.out)) hb)
                clear HO158
                clear HO169
                clear BK140
                clear BK141
                clear BK142
                clear BK147
                clear BK151
                clear HB
                have HO158 := n0_
                have HO169 := n1_
                have BK140 := n2_
                have BK141 := n3_
                have BK142 := n4_
                have BK147 := n5_
                have BK151 := n6_
                have HB := n7_
                clear n0_ n1_ n2_ n3_ n4_ n5_ n6_ n7_
                (try clear hb)
                (try clear hb2)
                (try clear hk)
                (try clear hi)
                refine hK.out _ _ ⟨(blk_cell BK140.out 0).trans rfl, (blk_cell BK140.out 1).trans rfl, (blk_cell BK141.out 0).trans rfl, (blk_cell BK141.out 1).trans rfl, (blk_cell BK142.out 0).trans rfl, (blk_cell BK142.out 1).trans rfl⟩ (fun hHeld => ?_)
                clear hK K
                refine norm_ (a' := ?_) ?_ ?_
                rotate_left
                · show Act.put _ (some 66) _ = _
                  simp only [Act.put, List.setIfInBounds_toArray, List.set_cons_zero, List.set_cons_succ, i64_w, i32_w]
                  rfl
                refine pure_ (i := 21) (N := some 68) (v := ?_) (a' := ?_) #[true, true, true, true, true, true, true, true, true, true, true, true, true, true, true, true, true, true, true, true, true, true, false] rfl rfl (any_of HT_.out (by kernel_rfl)) (fun _ _ _ h => h) (Or.inl ⟨by rfl, ?_⟩) ?_ ?_
                rotate_left
                · intro w'
                  go_simp
                  with_reducible rfl
                rotate_left
                · simp only [Act.put, List.setIfInBounds_toArray, List.set_cons_zero, List.set_cons_succ, i64_w, i32_w]
                  rfl
                refine pure_ (i := 22) (N := some 69) (v := ?_) (a' := ?_) #[true, true, true, true, true, true, true, true, true, true, true, true, true, true, true, true, true, true, true, true, true, true, true] rfl rfl (any_of HT_.out (by kernel_rfl)) (fun _ _ _ h => h) (Or.inl ⟨by rfl, ?_⟩) ?_ ?_
                rotate_left
                · intro w'
                  go_simp
                  with_reducible rfl
                rotate_left
                · simp only [Act.put, List.setIfInBounds_toArray, List.set_cons_zero, List.set_cons_succ, i64_w, i32_w]
                  rfl
                refine done_ (done_of HT_.out (by kernel_rfl)) ?_
                try go_wp2
                go_meet
                case rel => exact ⟨_, ((!(t170 == a1_0) || (!(t171 == a1_1)))), (by first | rfl | (simp; done) | (simp [*]; done)), H', ⟨by have := HJ7.out; first | omega | exact Nat.le_refl _⟩, ⟨by (with_reducible repeat (first | refine blk_drewN ?_ _ | refine blk_drew ?_ | refine blk_alloc ?_ _)); exact BK140.out⟩, ⟨by (with_reducible repeat (first | refine blk_drewN ?_ _ | refine blk_drew ?_ | refine blk_alloc ?_ _)); exact BK141.out⟩, ⟨by (with_reducible repeat (first | refine blk_drewN ?_ _ | refine blk_drew ?_ | refine blk_alloc ?_ _)); exact BK142.out⟩, ⟨by (with_reducible repeat (first | refine blk_drewN ?_ _ | refine blk_drew ?_ | refine blk_alloc ?_ _)); exact BK147.out⟩, ⟨by (with_reducible repeat (first | refine blk_drewN ?_ _ | refine blk_drew ?_ | refine blk_alloc ?_ _)); exact BK151.out⟩, ⟨by repeat (first | (with_reducible first | exact HB.out | apply below_alloc | apply pw_below_drewN | apply below_drew1 | refine below_set ?_ GE140.out | refine below_set ?_ GE141.out | refine below_set ?_ GE142.out | refine below_set ?_ GE147.out | refine below_set ?_ GE151.out) | exact HB.out)⟩⟩
          case rest =>
            clear HC60
            try clear c1
            try clear c2
            try clear p2
            try clear c7
            try clear c15
            try clear c16
            try clear c73
            try clear c73b0
            obtain ⟨kq, x69_59, rfl, HA, HJ59, BK140, BK141, BK142, BK147, BK151, HB⟩ := hcut
            cases kq with
            | zero => exact absurd HA.out (by simp [dovecotelaw01_StampOrders.j1])
            | succ kj59 =>
              have H := HA.out
              clear HA
              simp only [dovecotelaw01_StampOrders.j1] at H
              by_cases c95 : x69_59 = true
              · subst c95
                have H1 : (some false) = some r := by rw [if_pos rfl] at H; exact H
                exact absurd ((Option.some.inj H1).trans hrt.out) (by decide)
              · replace c95 := Bool.eq_false_iff.mpr c95
                subst c95
                have H1 : ((stamp_Less.f kj59 a0_0 a0_1 a1_0 a1_1).bind fun t172 => (if t172 = true then ((stamp_Less.f kj59 a1_0 a1_1 a0_0 a0_1).bind fun t173 => (if t173 = true then (dovecotelaw01_StampOrders.j2 kj59 t146 true a0_0 a0_1 a1_0 a1_1 t144 t145) else (if (a0_0 == a1_0 && (a0_1 == a1_1)) = true then (dovecotelaw01_StampOrders.j2 kj59 t146 true a0_0 a0_1 a1_0 a1_1 t144 t145) else ((stamp_Less.f kj59 a0_0 a0_1 a1_0 a1_1).bind fun t174 => (if t174 = true then ((stamp_Less.f kj59 a1_0 a1_1 a2_0 a2_1).bind fun t175 => (if t175 = true then ((stamp_Less.f kj59 a0_0 a0_1 a2_0 a2_1).bind fun t176 => (if t176 = true then ((stamp_Less.f kj59 a0_0 a0_1 a1_0 a1_1).bind fun t177 => (if t177 = true then (dovecotelaw01_StampOrders.j2 kj59 t146 false a0_0 a0_1 a1_0 a1_1 t144 t145) else ((stamp_Less.f kj59 a1_0 a1_1 a0_0 a0_1).bind fun t178 => (if t178 = true then (dovecotelaw01_StampOrders.j2 kj59 t146 false a0_0 a0_1 a1_0 a1_1 t144 t145) else (dovecotelaw01_StampOrders.j2 kj59 t146 (!(a0_0 == a1_0) || (!(a0_1 == a1_1))) a0_0 a0_1 a1_0 a1_1 t144 t145))))) else (dovecotelaw01_StampOrders.j2 kj59 t146 true a0_0 a0_1 a1_0 a1_1 t144 t145))) else ((stamp_Less.f kj59 a0_0 a0_1 a1_0 a1_1).bind fun t179 => (if t179 = true then (dovecotelaw01_StampOrders.j2 kj59 t146 false a0_0 a0_1 a1_0 a1_1 t144 t145) else ((stamp_Less.f kj59 a1_0 a1_1 a0_0 a0_1).bind fun t180 => (if t180 = true then (dovecotelaw01_StampOrders.j2 kj59 t146 false a0_0 a0_1 a1_0 a1_1 t144 t145) else (dovecotelaw01_StampOrders.j2 kj59 t146 (!(a0_0 == a1_0) || (!(a0_1 == a1_1))) a0_0 a0_1 a1_0 a1_1 t144 t145))))))) else ((stamp_Less.f kj59 a0_0 a0_1 a1_0 a1_1).bind fun t181 => (if t181 = true then (dovecotelaw01_StampOrders.j2 kj59 t146 false a0_0 a0_1 a1_0 a1_1 t144 t145) else ((stamp_Less.f kj59 a1_0 a1_1 a0_0 a0_1).bind fun t182 => (if t182 = true then (dovecotelaw01_StampOrders.j2 kj59 t146 false a0_0 a0_1 a1_0 a1_1 t144 t145) else (dovecotelaw01_StampOrders.j2 kj59 t146 (!(a0_0 == a1_0) || (!(a0_1 == a1_1))) a0_0 a0_1 a1_0 a1_1 t144 t145)))))))))) else ((stamp_Less.f kj59 a0_0 a0_1 a1_0 a1_1).bind fun t183 => (if t183 = true then ((stamp_Less.f kj59 a1_0 a1_1 a2_0 a2_1).bind fun t184 => (if t184 = true then ((stamp_Less.f kj59 a0_0 a0_1 a2_0 a2_1).bind fun t185 => (if t185 = true then ((stamp_Less.f kj59 a0_0 a0_1 a1_0 a1_1).bind fun t186 => (if t186 = true then (dovecotelaw01_StampOrders.j2 kj59 t146 false a0_0 a0_1 a1_0 a1_1 t144 t145) else ((stamp_Less.f kj59 a1_0 a1_1 a0_0 a0_1).bind fun t187 => (if t187 = true then (dovecotelaw01_StampOrders.j2 kj59 t146 false a0_0 a0_1 a1_0 a1_1 t144 t145) else (dovecotelaw01_StampOrders.j2 kj59 t146 (!(a0_0 == a1_0) || (!(a0_1 == a1_1))) a0_0 a0_1 a1_0 a1_1 t144 t145))))) else (dovecotelaw01_StampOrders.j2 kj59 t146 true a0_0 a0_1 a1_0 a1_1 t144 t145))) else ((stamp_Less.f kj59 a0_0 a0_1 a1_0 a1_1).bind fun t188 => (if t188 = true then (dovecotelaw01_StampOrders.j2 kj59 t146 false a0_0 a0_1 a1_0 a1_1 t144 t145) else ((stamp_Less.f kj59 a1_0 a1_1 a0_0 a0_1).bind fun t189 => (if t189 = true then (dovecotelaw01_StampOrders.j2 kj59 t146 false a0_0 a0_1 a1_0 a1_1 t144 t145) else (dovecotelaw01_StampOrders.j2 kj59 t146 (!(a0_0 == a1_0) || (!(a0_1 == a1_1))) a0_0 a0_1 a1_0 a1_1 t144 t145))))))) else ((stamp_Less.f kj59 a0_0 a0_1 a1_0 a1_1).bind fun t190 => (if t190 = true then (dovecotelaw01_StampOrders.j2 kj59 t146 false a0_0 a0_1 a1_0 a1_1 t144 t145) else ((stamp_Less.f kj59 a1_0 a1_1 a0_0 a0_1).bind fun t191 => (if t191 = true then (dovecotelaw01_StampOrders.j2 kj59 t146 false a0_0 a0_1 a1_0 a1_1 t144 t145) else (dovecotelaw01_StampOrders.j2 kj59 t146 (!(a0_0 == a1_0) || (!(a0_1 == a1_1))) a0_0 a0_1 a1_0 a1_1 t144 t145))))))))) = some r := by rw [if_neg (show ¬ (false = true) by decide)] at H; exact H
                clear H
                have H := H1
                clear H1
                have HC96 := Aside0.mk H
                clear H
                go_upto_region 9 with (fail)
                go_cut [115] (fun v115 wc => ∃ (kq : Nat) (x115_95 : Bool), v115 = .bool x115_95 ∧ Aside0 (dovecotelaw01_StampOrders.j2 kq t146 x115_95 a0_0 a0_1 a1_0 a1_1 t144 t145 = some r) ∧ Aside0 (kq ≤ kj59) ∧ Aside0 (wc.heap[gb140]? = some (.cells #[.int .u64 a0_0, .int .u32 a0_1] 25 (0, 0))) ∧ Aside0 (wc.heap[gb141]? = some (.cells #[.int .u64 a1_0, .int .u32 a1_1] 25 (0, 0))) ∧ Aside0 (wc.heap[gb142]? = some (.cells #[.int .u64 a2_0, .int .u32 a2_1] 25 (0, 0))) ∧ Aside0 (wc.heap[gb147]? = some (.cells #[.int .u64 t144, .int .u32 t145] 25 (0, 0))) ∧ Aside0 (wc.heap[gb151]? = some (.cells #[.int .u64 t148, .int .u32 t149] 25 (0, 0))) ∧ Aside0 (Below w.heap.size w wc))
                case first =>
                  have H := HC96.out
                  clear HC96
                  replace H := Option.bind_eq_some_iff.mp H
                  obtain ⟨t172, A970, H⟩ := H
                  replace H : (if t172 = true then ((stamp_Less.f kj59 a1_0 a1_1 a0_0 a0_1).bind fun t173 => (if t173 = true then (dovecotelaw01_StampOrders.j2 kj59 t146 true a0_0 a0_1 a1_0 a1_1 t144 t145) else (if (a0_0 == a1_0 && (a0_1 == a1_1)) = true then (dovecotelaw01_StampOrders.j2 kj59 t146 true a0_0 a0_1 a1_0 a1_1 t144 t145) else ((stamp_Less.f kj59 a0_0 a0_1 a1_0 a1_1).bind fun t174 => (if t174 = true then ((stamp_Less.f kj59 a1_0 a1_1 a2_0 a2_1).bind fun t175 => (if t175 = true then ((stamp_Less.f kj59 a0_0 a0_1 a2_0 a2_1).bind fun t176 => (if t176 = true then ((stamp_Less.f kj59 a0_0 a0_1 a1_0 a1_1).bind fun t177 => (if t177 = true then (dovecotelaw01_StampOrders.j2 kj59 t146 false a0_0 a0_1 a1_0 a1_1 t144 t145) else ((stamp_Less.f kj59 a1_0 a1_1 a0_0 a0_1).bind fun t178 => (if t178 = true then (dovecotelaw01_StampOrders.j2 kj59 t146 false a0_0 a0_1 a1_0 a1_1 t144 t145) else (dovecotelaw01_StampOrders.j2 kj59 t146 (!(a0_0 == a1_0) || (!(a0_1 == a1_1))) a0_0 a0_1 a1_0 a1_1 t144 t145))))) else (dovecotelaw01_StampOrders.j2 kj59 t146 true a0_0 a0_1 a1_0 a1_1 t144 t145))) else ((stamp_Less.f kj59 a0_0 a0_1 a1_0 a1_1).bind fun t179 => (if t179 = true then (dovecotelaw01_StampOrders.j2 kj59 t146 false a0_0 a0_1 a1_0 a1_1 t144 t145) else ((stamp_Less.f kj59 a1_0 a1_1 a0_0 a0_1).bind fun t180 => (if t180 = true then (dovecotelaw01_StampOrders.j2 kj59 t146 false a0_0 a0_1 a1_0 a1_1 t144 t145) else (dovecotelaw01_StampOrders.j2 kj59 t146 (!(a0_0 == a1_0) || (!(a0_1 == a1_1))) a0_0 a0_1 a1_0 a1_1 t144 t145))))))) else ((stamp_Less.f kj59 a0_0 a0_1 a1_0 a1_1).bind fun t181 => (if t181 = true then (dovecotelaw01_StampOrders.j2 kj59 t146 false a0_0 a0_1 a1_0 a1_1 t144 t145) else ((stamp_Less.f kj59 a1_0 a1_1 a0_0 a0_1).bind fun t182 => (if t182 = true then (dovecotelaw01_StampOrders.j2 kj59 t146 false a0_0 a0_1 a1_0 a1_1 t144 t145) else (dovecotelaw01_StampOrders.j2 kj59 t146 (!(a0_0 == a1_0) || (!(a0_1 == a1_1))) a0_0 a0_1 a1_0 a1_1 t144 t145)))))))))) else ((stamp_Less.f kj59 a0_0 a0_1 a1_0 a1_1).bind fun t183 => (if t183 = true then ((stamp_Less.f kj59 a1_0 a1_1 a2_0 a2_1).bind fun t184 => (if t184 = true then ((stamp_Less.f kj59 a0_0 a0_1 a2_0 a2_1).bind fun t185 => (if t185 = true then ((stamp_Less.f kj59 a0_0 a0_1 a1_0 a1_1).bind fun t186 => (if t186 = true then (dovecotelaw01_StampOrders.j2 kj59 t146 false a0_0 a0_1 a1_0 a1_1 t144 t145) else ((stamp_Less.f kj59 a1_0 a1_1 a0_0 a0_1).bind fun t187 => (if t187 = true then (dovecotelaw01_StampOrders.j2 kj59 t146 false a0_0 a0_1 a1_0 a1_1 t144 t145) else (dovecotelaw01_StampOrders.j2 kj59 t146 (!(a0_0 == a1_0) || (!(a0_1 == a1_1))) a0_0 a0_1 a1_0 a1_1 t144 t145))))) else (dovecotelaw01_StampOrders.j2 kj59 t146 true a0_0 a0_1 a1_0 a1_1 t144 t145))) else ((stamp_Less.f kj59 a0_0 a0_1 a1_0 a1_1).bind fun t188 => (if t188 = true then (dovecotelaw01_StampOrders.j2 kj59 t146 false a0_0 a0_1 a1_0 a1_1 t144 t145) else ((stamp_Less.f kj59 a1_0 a1_1 a0_0 a0_1).bind fun t189 => (if t189 = true then (dovecotelaw01_StampOrders.j2 kj59 t146 false a0_0 a0_1 a1_0 a1_1 t144 t145) else (dovecotelaw01_StampOrders.j2 kj59 t146 (!(a0_0 == a1_0) || (!(a0_1 == a1_1))) a0_0 a0_1 a1_0 a1_1 t144 t145))))))) else ((stamp_Less.f kj59 a0_0 a0_1 a1_0 a1_1).bind fun t190 => (if t190 = true then (dovecotelaw01_StampOrders.j2 kj59 t146 false a0_0 a0_1 a1_0 a1_1 t144 t145) else ((stamp_Less.f kj59 a1_0 a1_1 a0_0 a0_1).bind fun t191 => (if t191 = true then (dovecotelaw01_StampOrders.j2 kj59 t146 false a0_0 a0_1 a1_0 a1_1 t144 t145) else (dovecotelaw01_StampOrders.j2 kj59 t146 (!(a0_0 == a1_0) || (!(a0_1 == a1_1))) a0_0 a0_1 a1_0 a1_1 t144 t145)))))))) = some r := H
                  have A97 := Aside0.mk A970
                  clear A970
                  by_cases c98 : t172 = true
                  · subst c98
                    have H1 : ((stamp_Less.f kj59 a1_0 a1_1 a0_0 a0_1).bind fun t173 => (if t173 = true then (dovecotelaw01_StampOrders.j2 kj59 t146 true a0_0 a0_1 a1_0 a1_1 t144 t145) else (if (a0_0 == a1_0 && (a0_1 == a1_1)) = true then (dovecotelaw01_StampOrders.j2 kj59 t146 true a0_0 a0_1 a1_0 a1_1 t144 t145) else ((stamp_Less.f kj59 a0_0 a0_1 a1_0 a1_1).bind fun t174 => (if t174 = true then ((stamp_Less.f kj59 a1_0 a1_1 a2_0 a2_1).bind fun t175 => (if t175 = true then ((stamp_Less.f kj59 a0_0 a0_1 a2_0 a2_1).bind fun t176 => (if t176 = true then ((stamp_Less.f kj59 a0_0 a0_1 a1_0 a1_1).bind fun t177 => (if t177 = true then (dovecotelaw01_StampOrders.j2 kj59 t146 false a0_0 a0_1 a1_0 a1_1 t144 t145) else ((stamp_Less.f kj59 a1_0 a1_1 a0_0 a0_1).bind fun t178 => (if t178 = true then (dovecotelaw01_StampOrders.j2 kj59 t146 false a0_0 a0_1 a1_0 a1_1 t144 t145) else (dovecotelaw01_StampOrders.j2 kj59 t146 (!(a0_0 == a1_0) || (!(a0_1 == a1_1))) a0_0 a0_1 a1_0 a1_1 t144 t145))))) else (dovecotelaw01_StampOrders.j2 kj59 t146 true a0_0 a0_1 a1_0 a1_1 t144 t145))) else ((stamp_Less.f kj59 a0_0 a0_1 a1_0 a1_1).bind fun t179 => (if t179 = true then (dovecotelaw01_StampOrders.j2 kj59 t146 false a0_0 a0_1 a1_0 a1_1 t144 t145) else ((stamp_Less.f kj59 a1_0 a1_1 a0_0 a0_1).bind fun t180 => (if t180 = true then (dovecotelaw01_StampOrders.j2 kj59 t146 false a0_0 a0_1 a1_0 a1_1 t144 t145) else (dovecotelaw01_StampOrders.j2 kj59 t146 (!(a0_0 == a1_0) || (!(a0_1 == a1_1))) a0_0 a0_1 a1_0 a1_1 t144 t145))))))) else ((stamp_Less.f kj59 a0_0 a0_1 a1_0 a1_1).bind fun t181 => (if t181 = true then (dovecotelaw01_StampOrders.j2 kj59 t146 false a0_0 a0_1 a1_0 a1_1 t144 t145) else ((stamp_Less.f kj59 a1_0 a1_1 a0_0 a0_1).bind fun t182 => (if t182 = true then (dovecotelaw01_StampOrders.j2 kj59 t146 false a0_0 a0_1 a1_0 a1_1 t144 t145) else (dovecotelaw01_StampOrders.j2 kj59 t146 (!(a0_0 == a1_0) || (!(a0_1 == a1_1))) a0_0 a0_1 a1_0 a1_1 t144 t145)))))))))) = some r := by rw [if_pos rfl] at H; exact H
                    clear H
                    have H := H1
                    clear H1
                    replace H := Option.bind_eq_some_iff.mp H
                    obtain ⟨t173, A990, H⟩ := H
                    replace H : (if t173 = true then (dovecotelaw01_StampOrders.j2 kj59 t146 true a0_0 a0_1 a1_0 a1_1 t144 t145) else (if (a0_0 == a1_0 && (a0_1 == a1_1)) = true then (dovecotelaw01_StampOrders.j2 kj59 t146 true a0_0 a0_1 a1_0 a1_1 t144 t145) else ((stamp_Less.f kj59 a0_0 a0_1 a1_0 a1_1).bind fun t174 => (if t174 = true then ((stamp_Less.f kj59 a1_0 a1_1 a2_0 a2_1).bind fun t175 => (if t175 = true then ((stamp_Less.f kj59 a0_0 a0_1 a2_0 a2_1).bind fun t176 => (if t176 = true then ((stamp_Less.f kj59 a0_0 a0_1 a1_0 a1_1).bind fun t177 => (if t177 = true then (dovecotelaw01_StampOrders.j2 kj59 t146 false a0_0 a0_1 a1_0 a1_1 t144 t145) else ((stamp_Less.f kj59 a1_0 a1_1 a0_0 a0_1).bind fun t178 => (if t178 = true then (dovecotelaw01_StampOrders.j2 kj59 t146 false a0_0 a0_1 a1_0 a1_1 t144 t145) else (dovecotelaw01_StampOrders.j2 kj59 t146 (!(a0_0 == a1_0) || (!(a0_1 == a1_1))) a0_0 a0_1 a1_0 a1_1 t144 t145))))) else (dovecotelaw01_StampOrders.j2 kj59 t146 true a0_0 a0_1 a1_0 a1_1 t144 t145))) else ((stamp_Less.f kj59 a0_0 a0_1 a1_0 a1_1).bind fun t179 => (if t179 = true then (dovecotelaw01_StampOrders.j2 kj59 t146 false a0_0 a0_1 a1_0 a1_1 t144 t145) else ((stamp_Less.f kj59 a1_0 a1_1 a0_0 a0_1).bind fun t180 => (if t180 = true then (dovecotelaw01_StampOrders.j2 kj59 t146 false a0_0 a0_1 a1_0 a1_1 t144 t145) else (dovecotelaw01_StampOrders.j2 kj59 t146 (!(a0_0 == a1_0) || (!(a0_1 == a1_1))) a0_0 a0_1 a1_0 a1_1 t144 t145))))))) else ((stamp_Less.f kj59 a0_0 a0_1 a1_0 a1_1).bind fun t181 => (if t181 = true then (dovecotelaw01_StampOrders.j2 kj59 t146 false a0_0 a0_1 a1_0 a1_1 t144 t145) else ((stamp_Less.f kj59 a1_0 a1_1 a0_0 a0_1).bind fun t182 => (if t182 = true then (dovecotelaw01_StampOrders.j2 kj59 t146 false a0_0 a0_1 a1_0 a1_1 t144 t145) else (dovecotelaw01_StampOrders.j2 kj59 t146 (!(a0_0 == a1_0) || (!(a0_1 == a1_1))) a0_0 a0_1 a1_0 a1_1 t144 t145))))))))) = some r := H
                    have A99 := Aside0.mk A990
                    clear A990
                    by_cases c100 : t173 = true
                    · subst c100
                      have H1 : (dovecotelaw01_StampOrders.j2 kj59 t146 true a0_0 a0_1 a1_0 a1_1 t144 t145) = some r := by rw [if_pos rfl] at H; exact H
                      exact (dovecotelaw01_StampOrders.j2.no H1 hrt.out).elim
                    · replace c100 := Bool.eq_false_iff.mpr c100
                      subst c100
                      have H1 : (if (a0_0 == a1_0 && (a0_1 == a1_1)) = true then (dovecotelaw01_StampOrders.j2 kj59 t146 true a0_0 a0_1 a1_0 a1_1 t144 t145) else ((stamp_Less.f kj59 a0_0 a0_1 a1_0 a1_1).bind fun t174 => (if t174 = true then ((stamp_Less.f kj59 a1_0 a1_1 a2_0 a2_1).bind fun t175 => (if t175 = true then ((stamp_Less.f kj59 a0_0 a0_1 a2_0 a2_1).bind fun t176 => (if t176 = true then ((stamp_Less.f kj59 a0_0 a0_1 a1_0 a1_1).bind fun t177 => (if t177 = true then (dovecotelaw01_StampOrders.j2 kj59 t146 false a0_0 a0_1 a1_0 a1_1 t144 t145) else ((stamp_Less.f kj59 a1_0 a1_1 a0_0 a0_1).bind fun t178 => (if t178 = true then (dovecotelaw01_StampOrders.j2 kj59 t146 false a0_0 a0_1 a1_0 a1_1 t144 t145) else (dovecotelaw01_StampOrders.j2 kj59 t146 (!(a0_0 == a1_0) || (!(a0_1 == a1_1))) a0_0 a0_1 a1_0 a1_1 t144 t145))))) else (dovecotelaw01_StampOrders.j2 kj59 t146 true a0_0 a0_1 a1_0 a1_1 t144 t145))) else ((stamp_Less.f kj59 a0_0 a0_1 a1_0 a1_1).bind fun t179 => (if t179 = true then (dovecotelaw01_StampOrders.j2 kj59 t146 false a0_0 a0_1 a1_0 a1_1 t144 t145) else ((stamp_Less.f kj59 a1_0 a1_1 a0_0 a0_1).bind fun t180 => (if t180 = true then (dovecotelaw01_StampOrders.j2 kj59 t146 false a0_0 a0_1 a1_0 a1_1 t144 t145) else (dovecotelaw01_StampOrders.j2 kj59 t146 (!(a0_0 == a1_0) || (!(a0_1 == a1_1))) a0_0 a0_1 a1_0 a1_1 t144 t145))))))) else ((stamp_Less.f kj59 a0_0 a0_1 a1_0 a1_1).bind fun t181 => (if t181 = true then (dovecotelaw01_StampOrders.j2 kj59 t146 false a0_0 a0_1 a1_0 a1_1 t144 t145) else ((stamp_Less.f kj59 a1_0 a1_1 a0_0 a0_1).bind fun t182 => (if t182 = true then (dovecotelaw01_StampOrders.j2 kj59 t146 false a0_0 a0_1 a1_0 a1_1 t144 t145) else (dovecotelaw01_StampOrders.j2 kj59 t146 (!(a0_0 == a1_0) || (!(a0_1 == a1_1))) a0_0 a0_1 a1_0 a1_1 t144 t145)))))))) = some r := by rw [if_neg (show ¬ (false = true) by decide)] at H; exact H
                      clear H
                      have H := H1
                      clear H1
                      by_cases c114 : (a0_0 == a1_0 && (a0_1 == a1_1)) = true
                      · rw [if_pos c114] at H
                        exact (dovecotelaw01_StampOrders.j2.no H hrt.out).elim
                      · rw [if_neg c114] at H
                        have c114b0 : (a0_0 == a1_0 && (a0_1 == a1_1)) = false := by simpa using c114
                        (try (have c114b1 : decide (a0_0 = a1_0 && (a0_1 == a1_1)) = false := by simpa using c114))
                        (try (have c114b2 : (a0_0 == a1_0 && (a0_1 == a1_1)) = false := by simpa using c114))
                        (try (have c114b3 : ¬ (a0_0 = a1_0 && (a0_1 == a1_1)) := by simpa using c114))
                        clear c114
                        (first | rw [c114b0] | (simp only [i64_w, i32_w]; rw [c114b0]) | skip)
                        replace H := Option.bind_eq_some_iff.mp H
                        obtain ⟨t174, A1300, H⟩ := H
                        replace H : (if t174 = true then ((stamp_Less.f kj59 a1_0 a1_1 a2_0 a2_1).bind fun t175 => (if t175 = true then ((stamp_Less.f kj59 a0_0 a0_1 a2_0 a2_1).bind fun t176 => (if t176 = true then ((stamp_Less.f kj59 a0_0 a0_1 a1_0 a1_1).bind fun t177 => (if t177 = true then (dovecotelaw01_StampOrders.j2 kj59 t146 false a0_0 a0_1 a1_0 a1_1 t144 t145) else ((stamp_Less.f kj59 a1_0 a1_1 a0_0 a0_1).bind fun t178 => (if t178 = true then (dovecotelaw01_StampOrders.j2 kj59 t146 false a0_0 a0_1 a1_0 a1_1 t144 t145) else (dovecotelaw01_StampOrders.j2 kj59 t146 (!(a0_0 == a1_0) || (!(a0_1 == a1_1))) a0_0 a0_1 a1_0 a1_1 t144 t145))))) else (dovecotelaw01_StampOrders.j2 kj59 t146 true a0_0 a0_1 a1_0 a1_1 t144 t145))) else ((stamp_Less.f kj59 a0_0 a0_1 a1_0 a1_1).bind fun t179 => (if t179 = true then (dovecotelaw01_StampOrders.j2 kj59 t146 false a0_0 a0_1 a1_0 a1_1 t144 t145) else ((stamp_Less.f kj59 a1_0 a1_1 a0_0 a0_1).bind fun t180 => (if t180 = true then (dovecotelaw01_StampOrders.j2 kj59 t146 false a0_0 a0_1 a1_0 a1_1 t144 t145) else (dovecotelaw01_StampOrders.j2 kj59 t146 (!(a0_0 == a1_0) || (!(a0_1 == a1_1))) a0_0 a0_1 a1_0 a1_1 t144 t145))))))) else ((stamp_Less.f kj59 a0_0 a0_1 a1_0 a1_1).bind fun t181 => (if t181 = true then (dovecotelaw01_StampOrders.j2 kj59 t146 false a0_0 a0_1 a1_0 a1_1 t144 t145) else ((stamp_Less.f kj59 a1_0 a1_1 a0_0 a0_1).bind fun t182 => (if t182 = true then (dovecotelaw01_StampOrders.j2 kj59 t146 false a0_0 a0_1 a1_0 a1_1 t144 t145) else (dovecotelaw01_StampOrders.j2 kj59 t146 (!(a0_0 == a1_0) || (!(a0_1 == a1_1))) a0_0 a0_1 a1_0 a1_1 t144 t145)))))) = some r := H
                        have A130 := Aside0.mk A1300
                        clear A1300
                        by_cases c131 : t174 = true
                        · subst c131
                          have H1 : ((stamp_Less.f kj59 a1_0 a1_1 a2_0 a2_1).bind fun t175 => (if t175 = true then ((stamp_Less.f kj59 a0_0 a0_1 a2_0 a2_1).bind fun t176 => (if t176 = true then ((stamp_Less.f kj59 a0_0 a0_1 a1_0 a1_1).bind fun t177 => (if t177 = true then (dovecotelaw01_StampOrders.j2 kj59 t146 false a0_0 a0_1 a1_0 a1_1 t144 t145) else ((stamp_Less.f kj59 a1_0 a1_1 a0_0 a0_1).bind fun t178 => (if t178 = true then (dovecotelaw01_StampOrders.j2 kj59 t146 false a0_0 a0_1 a1_0 a1_1 t144 t145) else (dovecotelaw01_StampOrders.j2 kj59 t146 (!(a0_0 == a1_0) || (!(a0_1 == a1_1))) a0_0 a0_1 a1_0 a1_1 t144 t145))))) else (dovecotelaw01_StampOrders.j2 kj59 t146 true a0_0 a0_1 a1_0 a1_1 t144 t145))) else ((stamp_Less.f kj59 a0_0 a0_1 a1_0 a1_1).bind fun t179 => (if t179 = true then (dovecotelaw01_StampOrders.j2 kj59 t146 false a0_0 a0_1 a1_0 a1_1 t144 t145) else ((stamp_Less.f kj59 a1_0 a1_1 a0_0 a0_1).bind fun t180 => (if t180 = true then (dovecotelaw01_StampOrders.j2 kj59 t146 false a0_0 a0_1 a1_0 a1_1 t144 t145) else (dovecotelaw01_StampOrders.j2 kj59 t146 (!(a0_0 == a1_0) || (!(a0_1 == a1_1))) a0_0 a0_1 a1_0 a1_1 t144 t145))))))) = some r := by rw [if_pos rfl] at H; exact H
                          clear H
                          have H := H1
                          clear H1
                          replace H := Option.bind_eq_some_iff.mp H
                          obtain ⟨t175, A1320, H⟩ := H
                          replace H : (if t175 = true then ((stamp_Less.f kj59 a0_0 a0_1 a2_0 a2_1).bind fun t176 => (if t176 = true then ((stamp_Less.f kj59 a0_0 a0_1 a1_0 a1_1).bind fun t177 => (if t177 = true then (dovecotelaw01_StampOrders.j2 kj59 t146 false a0_0 a0_1 a1_0 a1_1 t144 t145) else ((stamp_Less.f kj59 a1_0 a1_1 a0_0 a0_1).bind fun t178 => (if t178 = true then (dovecotelaw01_StampOrders.j2 kj59 t146 false a0_0 a0_1 a1_0 a1_1 t144 t145) else (dovecotelaw01_StampOrders.j2 kj59 t146 (!(a0_0 == a1_0) || (!(a0_1 == a1_1))) a0_0 a0_1 a1_0 a1_1 t144 t145))))) else (dovecotelaw01_StampOrders.j2 kj59 t146 true a0_0 a0_1 a1_0 a1_1 t144 t145))) else ((stamp_Less.f kj59 a0_0 a0_1 a1_0 a1_1).bind fun t179 => (if t179 = true then (dovecotelaw01_StampOrders.j2 kj59 t146 false a0_0 a0_1 a1_0 a1_1 t144 t145) else ((stamp_Less.f kj59 a1_0 a1_1 a0_0 a0_1).bind fun t180 => (if t180 = true then (dovecotelaw01_StampOrders.j2 kj59 t146 false a0_0 a0_1 a1_0 a1_1 t144 t145) else (dovecotelaw01_StampOrders.j2 kj59 t146 (!(a0_0 == a1_0) || (!(a0_1 == a1_1))) a0_0 a0_1 a1_0 a1_1 t144 t145)))))) = some r := H
                          have A132 := Aside0.mk A1320
                          clear A1320
                          by_cases c133 : t175 = true
                          · subst c133
                            have H1 : ((stamp_Less.f kj59 a0_0 a0_1 a2_0 a2_1).bind fun t176 => (if t176 = true then ((stamp_Less.f kj59 a0_0 a0_1 a1_0 a1_1).bind fun t177 => (if t177 = true then (dovecotelaw01_StampOrders.j2 kj59 t146 false a0_0 a0_1 a1_0 a1_1 t144 t145) else ((stamp_Less.f kj59 a1_0 a1_1 a0_0 a0_1).bind fun t178 => (if t178 = true then (dovecotelaw01_StampOrders.j2 kj59 t146 false a0_0 a0_1 a1_0 a1_1 t144 t145) else (dovecotelaw01_StampOrders.j2 kj59 t146 (!(a0_0 == a1_0) || (!(a0_1 == a1_1))) a0_0 a0_1 a1_0 a1_1 t144 t145))))) else (dovecotelaw01_StampOrders.j2 kj59 t146 true a0_0 a0_1 a1_0 a1_1 t144 t145))) = some r := by rw [if_pos rfl] at H; exact H
                            clear H
                            have H := H1
                            clear H1
                            replace H := Option.bind_eq_some_iff.mp H
                            obtain ⟨t176, A1340, H⟩ := H
                            replace H : (if t176 = true then ((stamp_Less.f kj59 a0_0 a0_1 a1_0 a1_1).bind fun t177 => (if t177 = true then (dovecotelaw01_StampOrders.j2 kj59 t146 false a0_0 a0_1 a1_0 a1_1 t144 t145) else ((stamp_Less.f kj59 a1_0 a1_1 a0_0 a0_1).bind fun t178 => (if t178 = true then (dovecotelaw01_StampOrders.j2 kj59 t146 false a0_0 a0_1 a1_0 a1_1 t144 t145) else (dovecotelaw01_StampOrders.j2 kj59 t146 (!(a0_0 == a1_0) || (!(a0_1 == a1_1))) a0_0 a0_1 a1_0 a1_1 t144 t145))))) else (dovecotelaw01_StampOrders.j2 kj59 t146 true a0_0 a0_1 a1_0 a1_1 t144 t145)) = some r := H
                            have A134 := Aside0.mk A1340
                            clear A1340
                            by_cases c135 : t176 = true
                            · subst c135
                              have H1 : ((stamp_Less.f kj59 a0_0 a0_1 a1_0 a1_1).bind fun t177 => (if t177 = true then (dovecotelaw01_StampOrders.j2 kj59 t146 false a0_0 a0_1 a1_0 a1_1 t144 t145) else ((stamp_Less.f kj59 a1_0 a1_1 a0_0 a0_1).bind fun t178 => (if t178 = true then (dovecotelaw01_StampOrders.j2 kj59 t146 false a0_0 a0_1 a1_0 a1_1 t144 t145) else (dovecotelaw01_StampOrders.j2 kj59 t146 (!(a0_0 == a1_0) || (!(a0_1 == a1_1))) a0_0 a0_1 a1_0 a1_1 t144 t145))))) = some r := by rw [if_pos rfl] at H; exact H
                              clear H
                              have H := H1
                              clear H1
                              replace H := Option.bind_eq_some_iff.mp H
                              obtain ⟨t177, A1360, H⟩ := H
                              replace H : (if t177 = true then (dovecotelaw01_StampOrders.j2 kj59 t146 false a0_0 a0_1 a1_0 a1_1 t144 t145) else ((stamp_Less.f kj59 a1_0 a1_1 a0_0 a0_1).bind fun t178 => (if t178 = true then (dovecotelaw01_StampOrders.j2 kj59 t146 false a0_0 a0_1 a1_0 a1_1 t144 t145) else (dovecotelaw01_StampOrders.j2 kj59 t146 (!(a0_0 == a1_0) || (!(a0_1 == a1_1))) a0_0 a0_1 a1_0 a1_1 t144 t145)))) = some r := H
                              have A136 := Aside0.mk A1360
                              clear A1360
                              by_cases c137 : t177 = true
                              · subst c137
                                have H1 : (dovecotelaw01_StampOrders.j2 kj59 t146 false a0_0 a0_1 a1_0 a1_1 t144 t145) = some r := by rw [if_pos rfl] at H; exact H
                                clear H
                                have H := H1
                                clear H1
                                have H' := Aside0.mk H
                                clear H
                                have hnb138 := NB140_141.out
                                have hnc138 := NB141_140.out
                                have hnb139 := NB140_142.out
                                have hnc139 := NB142_140.out
                                have hnb140 := NB140_147.out
                                have hnc140 := NB147_140.out
                                have hnb141 := NB140_151.out
                                have hnc141 := NB151_140.out
                                have hcz142_0 : wc.cell? ⟨gb140, 0, none⟩ = some (.int .u64 a0_0) := (blk_cell BK140.out 0).trans rfl
                                have hcz142_1 : wc.cell? ⟨gb140, 1, none⟩ = some (.int .u32 a0_1) := (blk_cell BK140.out 1).trans rfl
                                have hfz142_0 := blk_frozen BK140.out 0
                                have hfz142_1 := blk_frozen BK140.out 1
                                have hnb143 := NB141_142.out
                                have hnc143 := NB142_141.out
                                have hnb144 := NB141_147.out
                                have hnc144 := NB147_141.out
                                have hnb145 := NB141_151.out
                                have hnc145 := NB151_141.out
                                have hcz146_0 : wc.cell? ⟨gb141, 0, none⟩ = some (.int .u64 a1_0) := (blk_cell BK141.out 0).trans rfl
                                have hcz146_1 : wc.cell? ⟨gb141, 1, none⟩ = some (.int .u32 a1_1) := (blk_cell BK141.out 1).trans rfl
                                have hfz146_0 := blk_frozen BK141.out 0
                                have hfz146_1 := blk_frozen BK141.out 1
                                go_wp2_with (first | ((with_reducible refine gate_callee (f := 11) rfl ?_); refine goesL_ (some 72) rfl rfl Tryd.func11 (by kernel_rfl) rfl #[.agg #[.int .u64 a0_0, .int .u32 a0_1], .agg #[.int .u64 a1_0, .int .u32 a1_1]] rfl (by (try simp only [List.map_toArray, List.map_cons, List.map_nil]); first | done | rfl | (simp only [List.length_drop, List.length_take]; rfl)) ?_; (with_reducible refine (stamp_Less.calls kj59 a0_0 a0_1 a1_0 a1_1 true _ A97.out).mono ?_); rintro e w147 ⟨rfl, hb⟩; refine ⟨_, rfl, ?_⟩; have n0_ := Aside0.mk (blk_below (g := gb140) (o := .cells #[.int .u64 a0_0, .int .u32 a0_1] 25 (0, 0)) (by (with_reducible repeat (first | refine blk_drewN ?_ _ | refine blk_drew ?_ | refine blk_alloc ?_ _)); exact BK140.out) hb); have n1_ := Aside0.mk (blk_below (g := gb141) (o := .cells #[.int .u64 a1_0, .int .u32 a1_1] 25 (0, 0)) (by (with_reducible repeat (first | refine blk_drewN ?_ _ | refine blk_drew ?_ | refine blk_alloc ?_ _)); exact BK141.out) hb); have n2_ := Aside0.mk (blk_below (g := gb142) (o := .cells #[.int .u64 a2_0, .int .u32 a2_1] 25 (0, 0)) (by (with_reducible repeat (first | refine blk_drewN ?_ _ | refine blk_drew ?_ | refine blk_alloc ?_ _)); exact BK142.out) hb); have n3_ := Aside0.mk (blk_below (g := gb147) (o := .cells #[.int .u64 t144, .int .u32 t145] 25 (0, 0)) (by (with_reducible repeat (first | refine blk_drewN ?_ _ | refine blk_drew ?_ | refine blk_alloc ?_ _)); exact BK147.out) hb); have n4_ := Aside0.mk (blk_below (g := gb151) (o := .cells #[.int .u64 t148, .int .u32 t149] 25 (0, 0)) (by (with_reducible repeat (first | refine blk_drewN ?_ _ | refine blk_drew ?_ | refine blk_alloc ?_ _)); exact BK151.out) hb); have n5_ := Aside0.mk (below_step (by repeat (first | (with_reducible first | exact HB.out | apply below_alloc | apply pw_below_drewN | apply below_drew1 | refine below_set ?_ GE140.out | refine below_set ?_ GE141.out | refine below_set ?_ GE142.out | refine below_set ?_ GE147.out | refine below_set ?_ GE151.out) | exact HB.out)) hb); clear BK140; clear BK141; clear BK142; clear BK147; clear BK151; clear HB; have BK140 := n0_; have BK141 := n1_; have BK142 := n2_; have BK147 := n3_; have BK151 := n4_; have HB := n5_; clear n0_ n1_ n2_ n3_ n4_ n5_; (try clear hb); (try clear hb2); (try clear hk); (try clear hi); have hcz148_0 : w147.cell? ⟨gb141, 0, none⟩ = some (.int .u64 a1_0) := (blk_cell BK141.out 0).trans rfl; have hcz148_1 : w147.cell? ⟨gb141, 1, none⟩ = some (.int .u32 a1_1) := (blk_cell BK141.out 1).trans rfl; have hfz148_0 := blk_frozen BK141.out 0; have hfz148_1 := blk_frozen BK141.out 1; have hcz149_0 : w147.cell? ⟨gb140, 0, none⟩ = some (.int .u64 a0_0) := (blk_cell BK140.out 0).trans rfl; have hcz149_1 : w147.cell? ⟨gb140, 1, none⟩ = some (.int .u32 a0_1) := (blk_cell BK140.out 1).trans rfl; have hfz149_0 := blk_frozen BK140.out 0; have hfz149_1 := blk_frozen BK140.out 1) | (go_at_call 11; (with_reducible refine (stamp_Less.calls kj59 a1_0 a1_1 a0_0 a0_1 false _ A99.out).mono ?_); rintro e w150 ⟨rfl, hb⟩; have n0_ := Aside0.mk (blk_below (g := gb140) (o := .cells #[.int .u64 a0_0, .int .u32 a0_1] 25 (0, 0)) (by (with_reducible repeat (first | refine blk_drewN ?_ _ | refine blk_drew ?_ | refine blk_alloc ?_ _)); exact BK140.out) hb); have n1_ := Aside0.mk (blk_below (g := gb141) (o := .cells #[.int .u64 a1_0, .int .u32 a1_1] 25 (0, 0)) (by (with_reducible repeat (first | refine blk_drewN ?_ _ | refine blk_drew ?_ | refine blk_alloc ?_ _)); exact BK141.out) hb); have n2_ := Aside0.mk (blk_below (g := gb142) (o := .cells #[.int .u64 a2_0, .int .u32 a2_1] 25 (0, 0)) (by (with_reducible repeat (first | refine blk_drewN ?_ _ | refine blk_drew ?_ | refine blk_alloc ?_ _)); exact BK142.out) hb); have n3_ := Aside0.mk (blk_below (g := gb147) (o := .cells #[.int .u64 t144, .int .u32 t145] 25 (0, 0)) (by (with_reducible repeat (first | refine blk_drewN ?_ _ | refine blk_drew ?_ | refine blk_alloc ?_ _)); exact BK147.out) hb); have n4_ := Aside0.mk (blk_below (g := gb151) (o := .cells #[.int .u64 t148, .int .u32 t149] 25 (0, 0)) (by (with_reducible repeat (first | refine blk_drewN ?_ _ | refine blk_drew ?_ | refine blk_alloc ?_ _)); exact BK151.out) hb); have n5_ := Aside0.mk (below_step (by repeat (first | (with_reducible first | exact HB.out | apply below_alloc | apply pw_below_drewN | apply below_drew1 | refine below_set ?_ GE140.out | refine below_set ?_ GE141.out | refine below_set ?_ GE142.out | refine below_set ?_ GE147.out | refine below_set ?_ GE151.out) | exact HB.out)) hb); clear BK140; clear BK141; clear BK142; clear BK147; clear BK151; clear HB; have BK140 := n0_; have BK141 := n1_; have BK142 := n2_; have BK147 := n3_; have BK151 := n4_; have HB := n5_; clear n0_ n1_ n2_ n3_ n4_ n5_; (try clear hb); (try clear hb2); (try clear hk); (try clear hi); have hcz151_0 : w150.cell? ⟨gb140, 0, none⟩ = some (.int .u64 a0_0) := (blk_cell BK140.out 0).trans rfl; have hcz151_1 : w150.cell? ⟨gb140, 1, none⟩ = some (.int .u32 a0_1) := (blk_cell BK140.out 1).trans rfl; have hfz151_0 := blk_frozen BK140.out 0; have hfz151_1 := blk_frozen BK140.out 1; have hcz152_0 : w150.cell? ⟨gb141, 0, none⟩ = some (.int .u64 a1_0) := (blk_cell BK141.out 0).trans rfl; have hcz152_1 : w150.cell? ⟨gb141, 1, none⟩ = some (.int .u32 a1_1) := (blk_cell BK141.out 1).trans rfl; have hfz152_0 := blk_frozen BK141.out 0; have hfz152_1 := blk_frozen BK141.out 1) | (go_at_call 11; (with_reducible refine (stamp_Less.calls kj59 a0_0 a0_1 a1_0 a1_1 true _ A130.out).mono ?_); rintro e w153 ⟨rfl, hb⟩; have n0_ := Aside0.mk (blk_below (g := gb140) (o := .cells #[.int .u64 a0_0, .int .u32 a0_1] 25 (0, 0)) (by (with_reducible repeat (first | refine blk_drewN ?_ _ | refine blk_drew ?_ | refine blk_alloc ?_ _)); exact BK140.out) hb); have n1_ := Aside0.mk (blk_below (g := gb141) (o := .cells #[.int .u64 a1_0, .int .u32 a1_1] 25 (0, 0)) (by (with_reducible repeat (first | refine blk_drewN ?_ _ | refine blk_drew ?_ | refine blk_alloc ?_ _)); exact BK141.out) hb); have n2_ := Aside0.mk (blk_below (g := gb142) (o := .cells #[.int .u64 a2_0, .int .u32 a2_1] 25 (0, 0)) (by (with_reducible repeat (first | refine blk_drewN ?_ _ | refine blk_drew ?_ | refine blk_alloc ?_ _)); exact BK142.out) hb); have n3_ := Aside0.mk (blk_below (g := gb147) (o := .cells #[.int .u64 t144, .int .u32 t145] 25 (0, 0)) (by (with_reducible repeat (first | refine blk_drewN ?_ _ | refine blk_drew ?_ | refine blk_alloc ?_ _)); exact BK147.out) hb); have n4_ := Aside0.mk (blk_below (g := gb151) (o := .cells #[.int .u64 t148, .int .u32 t149] 25 (0, 0)) (by (with_reducible repeat (first | refine blk_drewN ?_ _ | refine blk_drew ?_ | refine blk_alloc ?_ _)); exact BK151.out) hb); have n5_ := Aside0.mk (below_step (by repeat (first | (with_reducible first | exact HB.out | apply below_alloc | apply pw_below_drewN | apply below_drew1 | refine below_set ?_ GE140.out | refine below_set ?_ GE141.out | refine below_set ?_ GE142.out | refine below_set ?_ GE147.out | refine below_set ?_ GE151.out) | exact HB.out)) hb); clear BK140; clear BK141; clear BK142; clear BK147; clear BK151; clear HB; have BK140 := n0_; have BK141 := n1_; have BK142 := n2_; have BK147 := n3_; have BK151 := n4_; have HB := n5_; clear n0_ n1_ n2_ n3_ n4_ n5_; (try clear hb); (try clear hb2); (try clear hk); (try clear hi); have hcz154_0 : w153.cell? ⟨gb141, 0, none⟩ = some (.int .u64 a1_0) := (blk_cell BK141.out 0).trans rfl; have hcz154_1 : w153.cell? ⟨gb141, 1, none⟩ = some (.int .u32 a1_1) := (blk_cell BK141.out 1).trans rfl; have hfz154_0 := blk_frozen BK141.out 0; have hfz154_1 := blk_frozen BK141.out 1; have hnb155 := NB142_147.out; have hnc155 := NB147_142.out; have hnb156 := NB142_151.out; have hnc156 := NB151_142.out; have hcz157_0 : w153.cell? ⟨gb142, 0, none⟩ = some (.int .u64 a2_0) := (blk_cell BK142.out 0).trans rfl; have hcz157_1 : w153.cell? ⟨gb142, 1, none⟩ = some (.int .u32 a2_1) := (blk_cell BK142.out 1).trans rfl; have hfz157_0 := blk_frozen BK142.out 0; have hfz157_1 := blk_frozen BK142.out 1) | (go_at_call 11; (with_reducible refine (stamp_Less.calls kj59 a1_0 a1_1 a2_0 a2_1 true _ A132.out).mono ?_); rintro e w158 ⟨rfl, hb⟩; have n0_ := Aside0.mk (blk_below (g := gb140) (o := .cells #[.int .u64 a0_0, .int .u32 a0_1] 25 (0, 0)) (by (with_reducible repeat (first | refine blk_drewN ?_ _ | refine blk_drew ?_ | refine blk_alloc ?_ _)); exact BK140.out) hb); have n1_ := Aside0.mk (blk_below (g := gb141) (o := .cells #[.int .u64 a1_0, .int .u32 a1_1] 25 (0, 0)) (by (with_reducible repeat (first | refine blk_drewN ?_ _ | refine blk_drew ?_ | refine blk_alloc ?_ _)); exact BK141.out) hb); have n2_ := Aside0.mk (blk_below (g := gb142) (o := .cells #[.int .u64 a2_0, .int .u32 a2_1] 25 (0, 0)) (by (with_reducible repeat (first | refine blk_drewN ?_ _ | refine blk_drew ?_ | refine blk_alloc ?_ _)); exact BK142.out) hb); have n3_ := Aside0.mk (blk_below (g := gb147) (o := .cells #[.int .u64 t144, .int .u32 t145] 25 (0, 0)) (by (with_reducible repeat (first | refine blk_drewN ?_ _ | refine blk_drew ?_ | refine blk_alloc ?_ _)); exact BK147.out) hb); have n4_ := Aside0.mk (blk_below (g := gb151) (o := .cells #[.int .u64 t148, .int .u32 t149] 25 (0, 0)) (by (with_reducible repeat (first | refine blk_drewN ?_ _ | refine blk_drew ?_ | refine blk_alloc ?_ _)); exact BK151.out) hb); have n5_ := Aside0.mk (below_step (by repeat (first | (with_reducible first | exact HB.out | apply below_alloc | apply pw_below_drewN | apply below_drew1 | refine below_set ?_ GE140.out | refine below_set ?_ GE141.out | refine below_set ?_ GE142.out | refine below_set ?_ GE147.out | refine below_set ?_ GE151.out) | exact HB.out)) hb); clear BK140; clear BK141; clear BK142; clear BK147; clear BK151; clear HB; have BK140 := n0_; have BK141 := n1_; have BK142 := n2_; have BK147 := n3_; have BK151 := n4_; have HB := n5_; clear n0_ n1_ n2_ n3_ n4_ n5_; (try clear hb); (try clear hb2); (try clear hk); (try clear hi); have hcz159_0 : w158.cell? ⟨gb140, 0, none⟩ = some (.int .u64 a0_0) := (blk_cell BK140.out 0).trans rfl; have hcz159_1 : w158.cell? ⟨gb140, 1, none⟩ = some (.int .u32 a0_1) := (blk_cell BK140.out 1).trans rfl; have hfz159_0 := blk_frozen BK140.out 0; have hfz159_1 := blk_frozen BK140.out 1; have hcz160_0 : w158.cell? ⟨gb142, 0, none⟩ = some (.int .u64 a2_0) := (blk_cell BK142.out 0).trans rfl; have hcz160_1 : w158.cell? ⟨gb142, 1, none⟩ = some (.int .u32 a2_1) := (blk_cell BK142.out 1).trans rfl; have hfz160_0 := blk_frozen BK142.out 0; have hfz160_1 := blk_frozen BK142.out 1) | (go_at_call 11; (with_reducible refine (stamp_Less.calls kj59 a0_0 a0_1 a2_0 a2_1 true _ A134.out).mono ?_); rintro e w161 ⟨rfl, hb⟩; have n0_ := Aside0.mk (blk_below (g := gb140) (o := .cells #[.int .u64 a0_0, .int .u32 a0_1] 25 (0, 0)) (by (with_reducible repeat (first | refine blk_drewN ?_ _ | refine blk_drew ?_ | refine blk_alloc ?_ _)); exact BK140.out) hb); have n1_ := Aside0.mk (blk_below (g := gb141) (o := .cells #[.int .u64 a1_0, .int .u32 a1_1] 25 (0, 0)) (by (with_reducible repeat (first | refine blk_drewN ?_ _ | refine blk_drew ?_ | refine blk_alloc ?_ _)); exact BK141.out) hb); have n2_ := Aside0.mk (blk_below (g := gb142) (o := .cells #[.int .u64 a2_0, .int .u32 a2_1] 25 (0, 0)) (by (with_reducible repeat (first | refine blk_drewN ?_ _ | refine blk_drew ?_ | refine blk_alloc ?_ _)); exact BK142.out) hb); have n3_ := Aside0.mk (blk_below (g := gb147) (o := .cells #[.int .u64 t144, .int .u32 t145] 25 (0, 0)) (by (with_reducible repeat (first | refine blk_drewN ?_ _ | refine blk_drew ?_ | refine blk_alloc ?_ _)); exact BK147.out) hb); have n4_ := Aside0.mk (blk_below (g := gb151) (o := .cells #[.int .u64 t148, .int .u32 t149] 25 (0, 0)) (by (with_reducible repeat (first | refine blk_drewN ?_ _ | refine blk_drew ?_ | refine blk_alloc ?_ _)); exact BK151.out) hb); have n5_ := Aside0.mk (below_step (by repeat (first | (with_reducible first | exact HB.out | apply below_alloc | apply pw_below_drewN | apply below_drew1 | refine below_set ?_ GE140.out | refine below_set ?_ GE141.out | refine below_set ?_ GE142.out | refine below_set ?_ GE147.out | refine below_set ?_ GE151.out) | exact HB.out)) hb); clear BK140; clear BK141; clear BK142; clear BK147; clear BK151; clear HB; have BK140 := n0_; have BK141 := n1_; have BK142 := n2_; have BK147 := n3_; have BK151 := n4_; have HB := n5_; clear n0_ n1_ n2_ n3_ n4_ n5_; (try clear hb); (try clear hb2); (try clear hk); (try clear hi); have hcz162_0 : w161.cell? ⟨gb140, 0, none⟩ = some (.int .u64 a0_0) := (blk_cell BK140.out 0).trans rfl; have hcz162_1 : w161.cell? ⟨gb140, 1, none⟩ = some (.int .u32 a0_1) := (blk_cell BK140.out 1).trans rfl; have hfz162_0 := blk_frozen BK140.out 0; have hfz162_1 := blk_frozen BK140.out 1; have hcz163_0 : w161.cell? ⟨gb141, 0, none⟩ = some (.int .u64 a1_0) := (blk_cell BK141.out 0).trans rfl; have hcz163_1 : w161.cell? ⟨gb141, 1, none⟩ = some (.int .u32 a1_1) := (blk_cell BK141.out 1).trans rfl; have hfz163_0 := blk_frozen BK141.out 0; have hfz163_1 := blk_frozen BK141.out 1) | (go_at_call 11; (with_reducible refine (stamp_Less.calls kj59 a0_0 a0_1 a1_0 a1_1 true _ A136.out).mono ?_); rintro e w164 ⟨rfl, hb⟩; have n0_ := Aside0.mk (blk_below (g := gb140) (o := .cells #[.int .u64 a0_0, .int .u32 a0_1] 25 (0, 0)) (by (with_reducible repeat (first | refine blk_drewN ?_ _ | refine blk_drew ?_ | refine blk_alloc ?_ _)); exact BK140.out) hb); have n1_ := Aside0.mk (blk_below (g := gb141) (o := .cells #[.int .u64 a1_0, .int .u32 a1_1] 25 (0, 0)) (by (with_reducible repeat (first | refine blk_drewN ?_ _ | refine blk_drew ?_ | refine blk_alloc ?_ _)); exact BK141.out) hb); have n2_ := Aside0.mk (blk_below (g := gb142) (o := .cells #[.int .u64 a2_0, .int .u32 a2_1] 25 (0, 0)) (by (with_reducible repeat (first | refine blk_drewN ?_ _ | refine blk_drew ?_ | refine blk_alloc ?_ _)); exact BK142.out) hb); have n3_ := Aside0.mk (blk_below (g := gb147) (o := .cells #[.int .u64 t144, .int .u32 t145] 25 (0, 0)) (by (with_reducible repeat (first | refine blk_drewN ?_ _ | refine blk_drew ?_ | refine blk_alloc ?_ _)); exact BK147.out) hb); have n4_ := Aside0.mk (blk_below (g := gb151) (o := .cells #[.int .u64 t148, .int .u32 t149] 25 (0, 0)) (by (with_reducible repeat (first | refine blk_drewN ?_ _ | refine blk_drew ?_ | refine blk_alloc ?_ _)); exact BK151.out) hb); have n5_ := Aside0.mk (below_step (by repeat (first | (with_reducible first | exact HB.out | apply below_alloc | apply pw_below_drewN | apply below_drew1 | refine below_set ?_ GE140.out | refine below_set ?_ GE141.out | refine below_set ?_ GE142.out | refine below_set ?_ GE147.out | refine below_set ?_ GE151.out) | exact HB.out)) hb); clear BK140; clear BK141; clear BK142; clear BK147; clear BK151; clear HB; have BK140 := n0_; have BK141 := n1_; have BK142 := n2_; have BK147 := n3_; have BK151 := n4_; have HB := n5_; clear n0_ n1_ n2_ n3_ n4_ n5_; (try clear hb); (try clear hb2); (try clear hk); (try clear hi)))
                                go_meet
                                case rel => exact ⟨_, (false), (by first | rfl | (simp; done) | (simp [*]; done)), H', ⟨by have := HJ7.out; have := HJ59.out; first | omega | exact Nat.le_refl _⟩, ⟨by (with_reducible repeat (first | refine blk_drewN ?_ _ | refine blk_drew ?_ | refine blk_alloc ?_ _)); exact BK140.out⟩, ⟨by (with_reducible repeat (first | refine blk_drewN ?_ _ | refine blk_drew ?_ | refine blk_alloc ?_ _)); exact BK141.out⟩, ⟨by (with_reducible repeat (first | refine blk_drewN ?_ _ | refine blk_drew ?_ | refine blk_alloc ?_ _)); exact BK142.out⟩, ⟨by (with_reducible repeat (first | refine blk_drewN ?_ _ | refine blk_drew ?_ | refine blk_alloc ?_ _)); exact BK147.out⟩, ⟨by (with_reducible repeat (first | refine blk_drewN ?_ _ | refine blk_drew ?_ | refine blk_alloc ?_ _)); exact BK151.out⟩, ⟨by repeat (first | (with_reducible first | exact HB.out | apply below_alloc | apply pw_below_drewN | apply below_drew1 | refine below_set ?_ GE140.out | refine below_set ?_ GE141.out | refine below_set ?_ GE142.out | refine below_set ?_ GE147.out | refine below_set ?_ GE151.out) | exact HB.out)⟩⟩
                              · replace c137 := Bool.eq_false_iff.mpr c137
                                subst c137
                                exact absurd (Option.some.inj (A136.out.symm.trans A97.out)) (by decide)
                            · replace c135 := Bool.eq_false_iff.mpr c135
                              subst c135
                              have H1 : (dovecotelaw01_StampOrders.j2 kj59 t146 true a0_0 a0_1 a1_0 a1_1 t144 t145) = some r := by rw [if_neg (show ¬ (false = true) by decide)] at H; exact H
                              exact (dovecotelaw01_StampOrders.j2.no H1 hrt.out).elim
                          · replace c133 := Bool.eq_false_iff.mpr c133
                            subst c133
                            have H1 : ((stamp_Less.f kj59 a0_0 a0_1 a1_0 a1_1).bind fun t179 => (if t179 = true then (dovecotelaw01_StampOrders.j2 kj59 t146 false a0_0 a0_1 a1_0 a1_1 t144 t145) else ((stamp_Less.f kj59 a1_0 a1_1 a0_0 a0_1).bind fun t180 => (if t180 = true then (dovecotelaw01_StampOrders.j2 kj59 t146 false a0_0 a0_1 a1_0 a1_1 t144 t145) else (dovecotelaw01_StampOrders.j2 kj59 t146 (!(a0_0 == a1_0) || (!(a0_1 == a1_1))) a0_0 a0_1 a1_0 a1_1 t144 t145))))) = some r := by rw [if_neg (show ¬ (false = true) by decide)] at H; exact H
                            clear H
                            have H := H1
                            clear H1
                            replace H := Option.bind_eq_some_iff.mp H
                            obtain ⟨t179, A2530, H⟩ := H
                            replace H : (if t179 = true then (dovecotelaw01_StampOrders.j2 kj59 t146 false a0_0 a0_1 a1_0 a1_1 t144 t145) else ((stamp_Less.f kj59 a1_0 a1_1 a0_0 a0_1).bind fun t180 => (if t180 = true then (dovecotelaw01_StampOrders.j2 kj59 t146 false a0_0 a0_1 a1_0 a1_1 t144 t145) else (dovecotelaw01_StampOrders.j2 kj59 t146 (!(a0_0 == a1_0) || (!(a0_1 == a1_1))) a0_0 a0_1 a1_0 a1_1 t144 t145)))) = some r := H
                            have A253 := Aside0.mk A2530
                            clear A2530
                            by_cases c254 : t179 = true
                            · subst c254
                              have H1 : (dovecotelaw01_StampOrders.j2 kj59 t146 false a0_0 a0_1 a1_0 a1_1 t144 t145) = some r := by rw [if_pos rfl] at H; exact H
                              clear H
                              have H := H1
                              clear H1
                              have H' := Aside0.mk H
                              clear H
                              have hnb255 := NB140_141.out
                              have hnc255 := NB141_140.out
                              have hnb256 := NB140_142.out
                              have hnc256 := NB142_140.out
                              have hnb257 := NB140_147.out
                              have hnc257 := NB147_140.out
                              have hnb258 := NB140_151.out
                              have hnc258 := NB151_140.out
                              have hcz259_0 : wc.cell? ⟨gb140, 0, none⟩ = some (.int .u64 a0_0) := (blk_cell BK140.out 0).trans rfl
                              have hcz259_1 : wc.cell? ⟨gb140, 1, none⟩ = some (.int .u32 a0_1) := (blk_cell BK140.out 1).trans rfl
                              have hfz259_0 := blk_frozen BK140.out 0
                              have hfz259_1 := blk_frozen BK140.out 1
                              have hnb260 := NB141_142.out
                              have hnc260 := NB142_141.out
                              have hnb261 := NB141_147.out
                              have hnc261 := NB147_141.out
                              have hnb262 := NB141_151.out
                              have hnc262 := NB151_141.out
                              have hcz263_0 : wc.cell? ⟨gb141, 0, none⟩ = some (.int .u64 a1_0) := (blk_cell BK141.out 0).trans rfl
                              have hcz263_1 : wc.cell? ⟨gb141, 1, none⟩ = some (.int .u32 a1_1) := (blk_cell BK141.out 1).trans rfl
                              have hfz263_0 := blk_frozen BK141.out 0
                              have hfz263_1 := blk_frozen BK141.out 1
                              go_wp2_with (first | ((with_reducible refine gate_callee (f := 11) rfl ?_); refine goesL_ (some 72) rfl rfl Tryd.func11 (by kernel_rfl) rfl #[.agg #[.int .u64 a0_0, .int .u32 a0_1], .agg #[.int .u64 a1_0, .int .u32 a1_1]] rfl (by (try simp only [List.map_toArray, List.map_cons, List.map_nil]); first | done | rfl | (simp only [List.length_drop, List.length_take]; rfl)) ?_; (with_reducible refine (stamp_Less.calls kj59 a0_0 a0_1 a1_0 a1_1 true _ A97.out).mono ?_); rintro e w264 ⟨rfl, hb⟩; refine ⟨_, rfl, ?_⟩; have n0_ := Aside0.mk (blk_below (g := gb140) (o := .cells #[.int .u64 a0_0, .int .u32 a0_1] 25 (0, 0)) (by (with_reducible repeat (first | refine blk_drewN ?_ _ | refine blk_drew ?_ | refine blk_alloc ?_ _)); exact BK140.out) hb); have n1_ := Aside0.mk (blk_below (g := gb141) (o := .cells #[.int .u64 a1_0, .int .u32 a1_1] 25 (0, 0)) (by (with_reducible repeat (first | refine blk_drewN ?_ _ | refine blk_drew ?_ | refine blk_alloc ?_ _)); exact BK141.out) hb); have n2_ := Aside0.mk (blk_below (g := gb142) (o := .cells #[.int .u64 a2_0, .int .u32 a2_1] 25 (0, 0)) (by (with_reducible repeat (first | refine blk_drewN ?_ _ | refine blk_drew ?_ | refine blk_alloc ?_ _)); exact BK142.out) hb); have n3_ := Aside0.mk (blk_below (g := gb147) (o := .cells #[.int .u64 t144, .int .u32 t145] 25 (0, 0)) (by (with_reducible repeat (first | refine blk_drewN ?_ _ | refine blk_drew ?_ | refine blk_alloc ?_ _)); exact BK147.out) hb); have n4_ := Aside0.mk (blk_below (g := gb151) (o := .cells #[.int .u64 t148, .int .u32 t149] 25 (0, 0)) (by (with_reducible repeat (first | refine blk_drewN ?_ _ | refine blk_drew ?_ | refine blk_alloc ?_ _)); exact BK151.out) hb); have n5_ := Aside0.mk (below_step (by repeat (first | (with_reducible first | exact HB.out | apply below_alloc | apply pw_below_drewN | apply below_drew1 | refine below_set ?_ GE140.out | refine below_set ?_ GE141.out | refine below_set ?_ GE142.out | refine below_set ?_ GE147.out | refine below_set ?_ GE151.out) | exact HB.out)) hb); clear BK140; clear BK141; clear BK142; clear BK147; clear BK151; clear HB; have BK140 := n0_; have BK141 := n1_; have BK142 := n2_; have BK147 := n3_; have BK151 := n4_; have HB := n5_; clear n0_ n1_ n2_ n3_ n4_ n5_; (try clear hb); (try clear hb2); (try clear hk); (try clear hi); have hcz265_0 : w264.cell? ⟨gb141, 0, none⟩ = some (.int .u64 a1_0) := (blk_cell BK141.out 0).trans rfl; have hcz265_1 : w264.cell? ⟨gb141, 1, none⟩ = some (.int .u32 a1_1) := (blk_cell BK141.out 1).trans rfl; have hfz265_0 := blk_frozen BK141.out 0; have hfz265_1 := blk_frozen BK141.out 1; have hcz266_0 : w264.cell? ⟨gb140, 0, none⟩ = some (.int .u64 a0_0) := (blk_cell BK140.out 0).trans rfl; have hcz266_1 : w264.cell? ⟨gb140, 1, none⟩ = some (.int .u32 a0_1) := (blk_cell BK140.out 1).trans rfl; have hfz266_0 := blk_frozen BK140.out 0; have hfz266_1 := blk_frozen BK140.out 1) | (go_at_call 11; (with_reducible refine (stamp_Less.calls kj59 a1_0 a1_1 a0_0 a0_1 false _ A99.out).mono ?_); rintro e w267 ⟨rfl, hb⟩; have n0_ := Aside0.mk (blk_below (g := gb140) (o := .cells #[.int .u64 a0_0, .int .u32 a0_1] 25 (0, 0)) (by (with_reducible repeat (first | refine blk_drewN ?_ _ | refine blk_drew ?_ | refine blk_alloc ?_ _)); exact BK140.out) hb); have n1_ := Aside0.mk (blk_below (g := gb141) (o := .cells #[.int .u64 a1_0, .int .u32 a1_1] 25 (0, 0)) (by (with_reducible repeat (first | refine blk_drewN ?_ _ | refine blk_drew ?_ | refine blk_alloc ?_ _)); exact BK141.out) hb); have n2_ := Aside0.mk (blk_below (g := gb142) (o := .cells #[.int .u64 a2_0, .int .u32 a2_1] 25 (0, 0)) (by (with_reducible repeat (first | refine blk_drewN ?_ _ | refine blk_drew ?_ | refine blk_alloc ?_ _)); exact BK142.out) hb); have n3_ := Aside0.mk (blk_below (g := gb147) (o := .cells #[.int .u64 t144, .int .u32 t145] 25 (0, 0)) (by (with_reducible repeat (first | refine blk_drewN ?_ _ | refine blk_drew ?_ | refine blk_alloc ?_ _)); exact BK147.out) hb); have n4_ := Aside0.mk (blk_below (g := gb151) (o := .cells #[.int .u64 t148, .int .u32 t149] 25 (0, 0)) (by (with_reducible repeat (first | refine blk_drewN ?_ _ | refine blk_drew ?_ | refine blk_alloc ?_ _)); exact BK151.out) hb); have n5_ := Aside0.mk (below_step (by repeat (first | (with_reducible first | exact HB.out | apply below_alloc | apply pw_below_drewN | apply below_drew1 | refine below_set ?_ GE140.out | refine below_set ?_ GE141.out | refine below_set ?_ GE142.out | refine below_set ?_ GE147.out | refine below_set ?_ GE151.out) | exact HB.out)) hb); clear BK140; clear BK141; clear BK142; clear BK147; clear BK151; clear HB; have BK140 := n0_; have BK141 := n1_; have BK142 := n2_; have BK147 := n3_; have BK151 := n4_; have HB := n5_; clear n0_ n1_ n2_ n3_ n4_ n5_; (try clear hb); (try clear hb2); (try clear hk); (try clear hi); have hcz268_0 : w267.cell? ⟨gb140, 0, none⟩ = some (.int .u64 a0_0) := (blk_cell BK140.out 0).trans rfl; have hcz268_1 : w267.cell? ⟨gb140, 1, none⟩ = some (.int .u32 a0_1) := (blk_cell BK140.out 1).trans rfl; have hfz268_0 := blk_frozen BK140.out 0; have hfz268_1 := blk_frozen BK140.out 1; have hcz269_0 : w267.cell? ⟨gb141, 0, none⟩ = some (.int .u64 a1_0) := (blk_cell BK141.out 0).trans rfl; have hcz269_1 : w267.cell? ⟨gb141, 1, none⟩ = some (.int .u32 a1_1) := (blk_cell BK141.out 1).trans rfl; have hfz269_0 := blk_frozen BK141.out 0; have hfz269_1 := blk_frozen BK141.out 1) | (go_at_call 11; (with_reducible refine (stamp_Less.calls kj59 a0_0 a0_1 a1_0 a1_1 true _ A130.out).mono ?_); rintro e w270 ⟨rfl, hb⟩; have n0_ := Aside0.mk (blk_below (g := gb140) (o := .cells #[.int .u64 a0_0, .int .u32 a0_1] 25 (0, 0)) (by (with_reducible repeat (first | refine blk_drewN ?_ _ | refine blk_drew ?_ | refine blk_alloc ?_ _)); exact BK140.out) hb); have n1_ := Aside0.mk (blk_below (g := gb141) (o := .cells #[.int .u64 a1_0, .int .u32 a1_1] 25 (0, 0)) (by (with_reducible repeat (first | refine blk_drewN ?_ _ | refine blk_drew ?_ | refine blk_alloc ?_ _)); exact BK141.out) hb); have n2_ := Aside0.mk (blk_below (g := gb142) (o := .cells #[.int .u64 a2_0, .int .u32 a2_1] 25 (0, 0)) (by (with_reducible repeat (first | refine blk_drewN ?_ _ | refine blk_drew ?_ | refine blk_alloc ?_ _)); exact BK142.out) hb); have n3_ := Aside0.mk (blk_below (g := gb147) (o := .cells #[.int .u64 t144, .int .u32 t145] 25 (0, 0)) (by (with_reducible repeat (first | refine blk_drewN ?_ _ | refine blk_drew ?_ | refine blk_alloc ?_ _)); exact BK147.out) hb); have n4_ := Aside0.mk (blk_below (g := gb151) (o := .cells #[.int .u64 t148, .int .u32 t149] 25 (0, 0)) (by (with_reducible repeat (first | refine blk_drewN ?_ _ | refine blk_drew ?_ | refine blk_alloc ?_ _)); exact BK151.out) hb); have n5_ := Aside0.mk (below_step (by repeat (first | (with_reducible first | exact HB.out | apply below_alloc | apply pw_below_drewN | apply below_drew1 | refine below_set ?_ GE140.out | refine below_set ?_ GE141.out | refine below_set ?_ GE142.out | refine below_set ?_ GE147.out | refine below_set ?_ GE151.out) | exact HB.out)) hb); clear BK140; clear BK141; clear BK142; clear BK147; clear BK151; clear HB; have BK140 := n0_; have BK141 := n1_; have BK142 := n2_; have BK147 := n3_; have BK151 := n4_; have HB := n5_; clear n0_ n1_ n2_ n3_ n4_ n5_; (try clear hb); (try clear hb2); (try clear hk); (try clear hi); have hcz271_0 : w270.cell? ⟨gb141, 0, none⟩ = some (.int .u64 a1_0) := (blk_cell BK141.out 0).trans rfl; have hcz271_1 : w270.cell? ⟨gb141, 1, none⟩ = some (.int .u32 a1_1) := (blk_cell BK141.out 1).trans rfl; have hfz271_0 := blk_frozen BK141.out 0; have hfz271_1 := blk_frozen BK141.out 1; have hnb272 := NB142_147.out; have hnc272 := NB147_142.out; have hnb273 := NB142_151.out; have hnc273 := NB151_142.out; have hcz274_0 : w270.cell? ⟨gb142, 0, none⟩ = some (.int .u64 a2_0) := (blk_cell BK142.out 0).trans rfl; have hcz274_1 : w270.cell? ⟨gb142, 1, none⟩ = some (.int .u32 a2_1) := (blk_cell BK142.out 1).trans rfl; have hfz274_0 := blk_frozen BK142.out 0; have hfz274_1 := blk_frozen BK142.out 1) | (go_at_call 11; (with_reducible refine (stamp_Less.calls kj59 a1_0 a1_1 a2_0 a2_1 false _ A132.out).mono ?_); rintro e w275 ⟨rfl, hb⟩; have n0_ := Aside0.mk (blk_below (g := gb140) (o := .cells #[.int .u64 a0_0, .int .u32 a0_1] 25 (0, 0)) (by (with_reducible repeat (first | refine blk_drewN ?_ _ | refine blk_drew ?_ | refine blk_alloc ?_ _)); exact BK140.out) hb); have n1_ := Aside0.mk (blk_below (g := gb141) (o := .cells #[.int .u64 a1_0, .int .u32 a1_1] 25 (0, 0)) (by (with_reducible repeat (first | refine blk_drewN ?_ _ | refine blk_drew ?_ | refine blk_alloc ?_ _)); exact BK141.out) hb); have n2_ := Aside0.mk (blk_below (g := gb142) (o := .cells #[.int .u64 a2_0, .int .u32 a2_1] 25 (0, 0)) (by (with_reducible repeat (first | refine blk_drewN ?_ _ | refine blk_drew ?_ | refine blk_alloc ?_ _)); exact BK142.out) hb); have n3_ := Aside0.mk (blk_below (g := gb147) (o := .cells #[.int .u64 t144, .int .u32 t145] 25 (0, 0)) (by (with_reducible repeat (first | refine blk_drewN ?_ _ | refine blk_drew ?_ | refine blk_alloc ?_ _)); exact BK147.out) hb); have n4_ := Aside0.mk (blk_below (g := gb151) (o := .cells #[.int .u64 t148, .int .u32 t149] 25 (0, 0)) (by (with_reducible repeat (first | refine blk_drewN ?_ _ | refine blk_drew ?_ | refine blk_alloc ?_ _)); exact BK151.out) hb); have n5_ := Aside0.mk (below_step (by repeat (first | (with_reducible first | exact HB.out | apply below_alloc | apply pw_below_drewN | apply below_drew1 | refine below_set ?_ GE140.out | refine below_set ?_ GE141.out | refine below_set ?_ GE142.out | refine below_set ?_ GE147.out | refine below_set ?_ GE151.out) | exact HB.out)) hb); clear BK140; clear BK141; clear BK142; clear BK147; clear BK151; clear HB; have BK140 := n0_; have BK141 := n1_; have BK142 := n2_; have BK147 := n3_; have BK151 := n4_; have HB := n5_; clear n0_ n1_ n2_ n3_ n4_ n5_; (try clear hb); (try clear hb2); (try clear hk); (try clear hi); have hcz276_0 : w275.cell? ⟨gb140, 0, none⟩ = some (.int .u64 a0_0) := (blk_cell BK140.out 0).trans rfl; have hcz276_1 : w275.cell? ⟨gb140, 1, none⟩ = some (.int .u32 a0_1) := (blk_cell BK140.out 1).trans rfl; have hfz276_0 := blk_frozen BK140.out 0; have hfz276_1 := blk_frozen BK140.out 1; have hcz277_0 : w275.cell? ⟨gb141, 0, none⟩ = some (.int .u64 a1_0) := (blk_cell BK141.out 0).trans rfl; have hcz277_1 : w275.cell? ⟨gb141, 1, none⟩ = some (.int .u32 a1_1) := (blk_cell BK141.out 1).trans rfl; have hfz277_0 := blk_frozen BK141.out 0; have hfz277_1 := blk_frozen BK141.out 1) | (go_at_call 11; (with_reducible refine (stamp_Less.calls kj59 a0_0 a0_1 a1_0 a1_1 true _ A253.out).mono ?_); rintro e w278 ⟨rfl, hb⟩; have n0_ := Aside0.mk (blk_below (g := gb140) (o := .cells #[.int .u64 a0_0, .int .u32 a0_1] 25 (0, 0)) (by (with_reducible repeat (first | refine blk_drewN ?_ _ | refine blk_drew ?_ | refine blk_alloc ?_ _)); exact BK140.out) hb); have n1_ := Aside0.mk (blk_below (g := gb141) (o := .cells #[.int .u64 a1_0, .int .u32 a1_1] 25 (0, 0)) (by (with_reducible repeat (first | refine blk_drewN ?_ _ | refine blk_drew ?_ | refine blk_alloc ?_ _)); exact BK141.out) hb); have n2_ := Aside0.mk (blk_below (g := gb142) (o := .cells #[.int .u64 a2_0, .int .u32 a2_1] 25 (0, 0)) (by (with_reducible repeat (first | refine blk_drewN ?_ _ | refine blk_drew ?_ | refine blk_alloc ?_ _)); exact BK142.out) hb); have n3_ := Aside0.mk (blk_below (g := gb147) (o := .cells #[.int .u64 t144, .int .u32 t145] 25 (0, 0)) (by (with_reducible repeat (first | refine blk_drewN ?_ _ | refine blk_drew ?_ | refine blk_alloc ?_ _)); exact BK147.out) hb); have n4_ := Aside0.mk (blk_below (g := gb151) (o := .cells #[.int .u64 t148, .int .u32 t149] 25 (0, 0)) (by (with_reducible repeat (first | refine blk_drewN ?_ _ | refine blk_drew ?_ | refine blk_alloc ?_ _)); exact BK151.out) hb); have n5_ := Aside0.mk (below_step (by repeat (first | (with_reducible first | exact HB.out | apply below_alloc | apply pw_below_drewN | apply below_drew1 | refine below_set ?_ GE140.out | refine below_set ?_ GE141.out | refine below_set ?_ GE142.out | refine below_set ?_ GE147.out | refine below_set ?_ GE151.out) | exact HB.out)) hb); clear BK140; clear BK141; clear BK142; clear BK147; clear BK151; clear HB; have BK140 := n0_; have BK141 := n1_; have BK142 := n2_; have BK147 := n3_; have BK151 := n4_; have HB := n5_; clear n0_ n1_ n2_ n3_ n4_ n5_; (try clear hb); (try clear hb2); (try clear hk); (try clear hi)))
                              go_meet
                              case rel => exact ⟨_, (false), (by first | rfl | (simp; done) | (simp [*]; done)), H', ⟨by have := HJ7.out; have := HJ59.out; first | omega | exact Nat.le_refl _⟩, ⟨by (with_reducible repeat (first | refine blk_drewN ?_ _ | refine blk_drew ?_ | refine blk_alloc ?_ _)); exact BK140.out⟩, ⟨by (with_reducible repeat (first | refine blk_drewN ?_ _ | refine blk_drew ?_ | refine blk_alloc ?_ _)); exact BK141.out⟩, ⟨by (with_reducible repeat (first | refine blk_drewN ?_ _ | refine blk_drew ?_ | refine blk_alloc ?_ _)); exact BK142.out⟩, ⟨by (with_reducible repeat (first | refine blk_drewN ?_ _ | refine blk_drew ?_ | refine blk_alloc ?_ _)); exact BK147.out⟩, ⟨by (with_reducible repeat (first | refine blk_drewN ?_ _ | refine blk_drew ?_ | refine blk_alloc ?_ _)); exact BK151.out⟩, ⟨by repeat (first | (with_reducible first | exact HB.out | apply below_alloc | apply pw_below_drewN | apply below_drew1 | refine below_set ?_ GE140.out | refine below_set ?_ GE141.out | refine below_set ?_ GE142.out | refine below_set ?_ GE147.out | refine below_set ?_ GE151.out) | exact HB.out)⟩⟩
                            · replace c254 := Bool.eq_false_iff.mpr c254
                              subst c254
                              exact absurd (Option.some.inj (A253.out.symm.trans A97.out)) (by decide)
                        · replace c131 := Bool.eq_false_iff.mpr c131
                          subst c131
                          exact absurd (Option.some.inj (A130.out.symm.trans A97.out)) (by decide)
                  · replace c98 := Bool.eq_false_iff.mpr c98
                    subst c98
                    have H1 : ((stamp_Less.f kj59 a0_0 a0_1 a1_0 a1_1).bind fun t183 => (if t183 = true then ((stamp_Less.f kj59 a1_0 a1_1 a2_0 a2_1).bind fun t184 => (if t184 = true then ((stamp_Less.f kj59 a0_0 a0_1 a2_0 a2_1).bind fun t185 => (if t185 = true then ((stamp_Less.f kj59 a0_0 a0_1 a1_0 a1_1).bind fun t186 => (if t186 = true then (dovecotelaw01_StampOrders.j2 kj59 t146 false a0_0 a0_1 a1_0 a1_1 t144 t145) else ((stamp_Less.f kj59 a1_0 a1_1 a0_0 a0_1).bind fun t187 => (if t187 = true then (dovecotelaw01_StampOrders.j2 kj59 t146 false a0_0 a0_1 a1_0 a1_1 t144 t145) else (dovecotelaw01_StampOrders.j2 kj59 t146 (!(a0_0 == a1_0) || (!(a0_1 == a1_1))) a0_0 a0_1 a1_0 a1_1 t144 t145))))) else (dovecotelaw01_StampOrders.j2 kj59 t146 true a0_0 a0_1 a1_0 a1_1 t144 t145))) else ((stamp_Less.f kj59 a0_0 a0_1 a1_0 a1_1).bind fun t188 => (if t188 = true then (dovecotelaw01_StampOrders.j2 kj59 t146 false a0_0 a0_1 a1_0 a1_1 t144 t145) else ((stamp_Less.f kj59 a1_0 a1_1 a0_0 a0_1).bind fun t189 => (if t189 = true then (dovecotelaw01_StampOrders.j2 kj59 t146 false a0_0 a0_1 a1_0 a1_1 t144 t145) else (dovecotelaw01_StampOrders.j2 kj59 t146 (!(a0_0 == a1_0) || (!(a0_1 == a1_1))) a0_0 a0_1 a1_0 a1_1 t144 t145))))))) else ((stamp_Less.f kj59 a0_0 a0_1 a1_0 a1_1).bind fun t190 => (if t190 = true then (dovecotelaw01_StampOrders.j2 kj59 t146 false a0_0 a0_1 a1_0 a1_1 t144 t145) else ((stamp_Less.f kj59 a1_0 a1_1 a0_0 a0_1).bind fun t191 => (if t191 = true then (dovecotelaw01_StampOrders.j2 kj59 t146 false a0_0 a0_1 a1_0 a1_1 t144 t145) else (dovecotelaw01_StampOrders.j2 kj59 t146 (!(a0_0 == a1_0) || (!(a0_1 == a1_1))) a0_0 a0_1 a1_0 a1_1 t144 t145))))))) = some r := by rw [if_neg (show ¬ (false = true) by decide)] at H; exact H
                    clear H
                    have H := H1
                    clear H1
                    replace H := Option.bind_eq_some_iff.mp H
                    obtain ⟨t183, A4060, H⟩ := H
                    replace H : (if t183 = true then ((stamp_Less.f kj59 a1_0 a1_1 a2_0 a2_1).bind fun t184 => (if t184 = true then ((stamp_Less.f kj59 a0_0 a0_1 a2_0 a2_1).bind fun t185 => (if t185 = true then ((stamp_Less.f kj59 a0_0 a0_1 a1_0 a1_1).bind fun t186 => (if t186 = true then (dovecotelaw01_StampOrders.j2 kj59 t146 false a0_0 a0_1 a1_0 a1_1 t144 t145) else ((stamp_Less.f kj59 a1_0 a1_1 a0_0 a0_1).bind fun t187 => (if t187 = true then (dovecotelaw01_StampOrders.j2 kj59 t146 false a0_0 a0_1 a1_0 a1_1 t144 t145) else (dovecotelaw01_StampOrders.j2 kj59 t146 (!(a0_0 == a1_0) || (!(a0_1 == a1_1))) a0_0 a0_1 a1_0 a1_1 t144 t145))))) else (dovecotelaw01_StampOrders.j2 kj59 t146 true a0_0 a0_1 a1_0 a1_1 t144 t145))) else ((stamp_Less.f kj59 a0_0 a0_1 a1_0 a1_1).bind fun t188 => (if t188 = true then (dovecotelaw01_StampOrders.j2 kj59 t146 false a0_0 a0_1 a1_0 a1_1 t144 t145) else ((stamp_Less.f kj59 a1_0 a1_1 a0_0 a0_1).bind fun t189 => (if t189 = true then (dovecotelaw01_StampOrders.j2 kj59 t146 false a0_0 a0_1 a1_0 a1_1 t144 t145) else (dovecotelaw01_StampOrders.j2 kj59 t146 (!(a0_0 == a1_0) || (!(a0_1 == a1_1))) a0_0 a0_1 a1_0 a1_1 t144 t145))))))) else ((stamp_Less.f kj59 a0_0 a0_1 a1_0 a1_1).bind fun t190 => (if t190 = true then (dovecotelaw01_StampOrders.j2 kj59 t146 false a0_0 a0_1 a1_0 a1_1 t144 t145) else ((stamp_Less.f kj59 a1_0 a1_1 a0_0 a0_1).bind fun t191 => (if t191 = true then (dovecotelaw01_StampOrders.j2 kj59 t146 false a0_0 a0_1 a1_0 a1_1 t144 t145) else (dovecotelaw01_StampOrders.j2 kj59 t146 (!(a0_0 == a1_0) || (!(a0_1 == a1_1))) a0_0 a0_1 a1_0 a1_1 t144 t145)))))) = some r := H
                    have A406 := Aside0.mk A4060
                    clear A4060
                    by_cases c407 : t183 = true
                    · subst c407
                      exact absurd (Option.some.inj (A406.out.symm.trans A97.out)) (by decide)
                    · replace c407 := Bool.eq_false_iff.mpr c407
                      subst c407
                      have H1 : ((stamp_Less.f kj59 a0_0 a0_1 a1_0 a1_1).bind fun t190 => (if t190 = true then (dovecotelaw01_StampOrders.j2 kj59 t146 false a0_0 a0_1 a1_0 a1_1 t144 t145) else ((stamp_Less.f kj59 a1_0 a1_1 a0_0 a0_1).bind fun t191 => (if t191 = true then (dovecotelaw01_StampOrders.j2 kj59 t146 false a0_0 a0_1 a1_0 a1_1 t144 t145) else (dovecotelaw01_StampOrders.j2 kj59 t146 (!(a0_0 == a1_0) || (!(a0_1 == a1_1))) a0_0 a0_1 a1_0 a1_1 t144 t145))))) = some r := by rw [if_neg (show ¬ (false = true) by decide)] at H; exact H
                      clear H
                      have H := H1
                      clear H1
                      replace H := Option.bind_eq_some_iff.mp H
                      obtain ⟨t190, A5920, H⟩ := H
                      replace H : (if t190 = true then (dovecotelaw01_StampOrders.j2 kj59 t146 false a0_0 a0_1 a1_0 a1_1 t144 t145) else ((stamp_Less.f kj59 a1_0 a1_1 a0_0 a0_1).bind fun t191 => (if t191 = true then (dovecotelaw01_StampOrders.j2 kj59 t146 false a0_0 a0_1 a1_0 a1_1 t144 t145) else (dovecotelaw01_StampOrders.j2 kj59 t146 (!(a0_0 == a1_0) || (!(a0_1 == a1_1))) a0_0 a0_1 a1_0 a1_1 t144 t145)))) = some r := H
                      have A592 := Aside0.mk A5920
                      clear A5920
                      by_cases c593 : t190 = true
                      · subst c593
                        exact absurd (Option.some.inj (A592.out.symm.trans A97.out)) (by decide)
                      · replace c593 := Bool.eq_false_iff.mpr c593
                        subst c593
                        have H1 : ((stamp_Less.f kj59 a1_0 a1_1 a0_0 a0_1).bind fun t191 => (if t191 = true then (dovecotelaw01_StampOrders.j2 kj59 t146 false a0_0 a0_1 a1_0 a1_1 t144 t145) else (dovecotelaw01_StampOrders.j2 kj59 t146 (!(a0_0 == a1_0) || (!(a0_1 == a1_1))) a0_0 a0_1 a1_0 a1_1 t144 t145))) = some r := by rw [if_neg (show ¬ (false = true) by decide)] at H; exact H
                        clear H
                        have H := H1
                        clear H1
                        replace H := Option.bind_eq_some_iff.mp H
                        obtain ⟨t191, A6100, H⟩ := H
                        replace H : (if t191 = true then (dovecotelaw01_StampOrders.j2 kj59 t146 false a0_0 a0_1 a1_0 a1_1 t144 t145) else (dovecotelaw01_StampOrders.j2 kj59 t146 (!(a0_0 == a1_0) || (!(a0_1 == a1_1))) a0_0 a0_1 a1_0 a1_1 t144 t145)) = some r := H
                        have A610 := Aside0.mk A6100
                        clear A6100
                        by_cases c611 : t191 = true
                        · subst c611
                          have H1 : (dovecotelaw01_StampOrders.j2 kj59 t146 false a0_0 a0_1 a1_0 a1_1 t144 t145) = some r := by rw [if_pos rfl] at H; exact H
                          clear H
                          have H := H1
                          clear H1
                          have H' := Aside0.mk H
                          clear H
                          have hnb612 := NB140_141.out
                          have hnc612 := NB141_140.out
                          have hnb613 := NB140_142.out
                          have hnc613 := NB142_140.out
                          have hnb614 := NB140_147.out
                          have hnc614 := NB147_140.out
                          have hnb615 := NB140_151.out
                          have hnc615 := NB151_140.out
                          have hcz616_0 : wc.cell? ⟨gb140, 0, none⟩ = some (.int .u64 a0_0) := (blk_cell BK140.out 0).trans rfl
                          have hcz616_1 : wc.cell? ⟨gb140, 1, none⟩ = some (.int .u32 a0_1) := (blk_cell BK140.out 1).trans rfl
                          have hfz616_0 := blk_frozen BK140.out 0
                          have hfz616_1 := blk_frozen BK140.out 1
                          have hnb617 := NB141_142.out
                          have hnc617 := NB142_141.out
                          have hnb618 := NB141_147.out
                          have hnc618 := NB147_141.out
                          have hnb619 := NB141_151.out
                          have hnc619 := NB151_141.out
                          have hcz620_0 : wc.cell? ⟨gb141, 0, none⟩ = some (.int .u64 a1_0) := (blk_cell BK141.out 0).trans rfl
                          have hcz620_1 : wc.cell? ⟨gb141, 1, none⟩ = some (.int .u32 a1_1) := (blk_cell BK141.out 1).trans rfl
                          have hfz620_0 := blk_frozen BK141.out 0
                          have hfz620_1 := blk_frozen BK141.out 1
                          go_wp2_with (first | ((with_reducible refine gate_callee (f := 11) rfl ?_); refine goesL_ (some 72) rfl rfl Tryd.func11 (by kernel_rfl) rfl #[.agg #[.int .u64 a0_0, .int .u32 a0_1], .agg #[.int .u64 a1_0, .int .u32 a1_1]] rfl (by (try simp only [List.map_toArray, List.map_cons, List.map_nil]); first | done | rfl | (simp only [List.length_drop, List.length_take]; rfl)) ?_; (with_reducible refine (stamp_Less.calls kj59 a0_0 a0_1 a1_0 a1_1 false _ A97.out).mono ?_); rintro e w621 ⟨rfl, hb⟩; refine ⟨_, rfl, ?_⟩; have n0_ := Aside0.mk (blk_below (g := gb140) (o := .cells #[.int .u64 a0_0, .int .u32 a0_1] 25 (0, 0)) (by (with_reducible repeat (first | refine blk_drewN ?_ _ | refine blk_drew ?_ | refine blk_alloc ?_ _)); exact BK140.out) hb); have n1_ := Aside0.mk (blk_below (g := gb141) (o := .cells #[.int .u64 a1_0, .int .u32 a1_1] 25 (0, 0)) (by (with_reducible repeat (first | refine blk_drewN ?_ _ | refine blk_drew ?_ | refine blk_alloc ?_ _)); exact BK141.out) hb); have n2_ := Aside0.mk (blk_below (g := gb142) (o := .cells #[.int .u64 a2_0, .int .u32 a2_1] 25 (0, 0)) (by (with_reducible repeat (first | refine blk_drewN ?_ _ | refine blk_drew ?_ | refine blk_alloc ?_ _)); exact BK142.out) hb); have n3_ := Aside0.mk (blk_below (g := gb147) (o := .cells #[.int .u64 t144, .int .u32 t145] 25 (0, 0)) (by (with_reducible repeat (first | refine blk_drewN ?_ _ | refine blk_drew ?_ | refine blk_alloc ?_ _)); exact BK147.out) hb); have n4_ := Aside0.mk (blk_below (g := gb151) (o := .cells #[.int .u64 t148, .int .u32 t149] 25 (0, 0)) (by (with_reducible repeat (first | refine blk_drewN ?_ _ | refine blk_drew ?_ | refine blk_alloc ?_ _)); exact BK151.out) hb); have n5_ := Aside0.mk (below_step (by repeat (first | (with_reducible first | exact HB.out | apply below_alloc | apply pw_below_drewN | apply below_drew1 | refine below_set ?_ GE140.out | refine below_set ?_ GE141.out | refine below_set ?_ GE142.out | refine below_set ?_ GE147.out | refine below_set ?_ GE151.out) | exact HB.out)) hb); clear BK140; clear BK141; clear BK142; clear BK147; clear BK151; clear HB; have BK140 := n0_; have BK141 := n1_; have BK142 := n2_; have BK147 := n3_; have BK151 := n4_; have HB := n5_; clear n0_ n1_ n2_ n3_ n4_ n5_; (try clear hb); (try clear hb2); (try clear hk); (try clear hi); have hcz622_0 : w621.cell? ⟨gb140, 0, none⟩ = some (.int .u64 a0_0) := (blk_cell BK140.out 0).trans rfl; have hcz622_1 : w621.cell? ⟨gb140, 1, none⟩ = some (.int .u32 a0_1) := (blk_cell BK140.out 1).trans rfl; have hfz622_0 := blk_frozen BK140.out 0; have hfz622_1 := blk_frozen BK140.out 1; have hcz623_0 : w621.cell? ⟨gb141, 0, none⟩ = some (.int .u64 a1_0) := (blk_cell BK141.out 0).trans rfl; have hcz623_1 : w621.cell? ⟨gb141, 1, none⟩ = some (.int .u32 a1_1) := (blk_cell BK141.out 1).trans rfl; have hfz623_0 := blk_frozen BK141.out 0; have hfz623_1 := blk_frozen BK141.out 1) | (go_at_call 11; (with_reducible refine (stamp_Less.calls kj59 a0_0 a0_1 a1_0 a1_1 false _ A406.out).mono ?_); rintro e w624 ⟨rfl, hb⟩; have n0_ := Aside0.mk (blk_below (g := gb140) (o := .cells #[.int .u64 a0_0, .int .u32 a0_1] 25 (0, 0)) (by (with_reducible repeat (first | refine blk_drewN ?_ _ | refine blk_drew ?_ | refine blk_alloc ?_ _)); exact BK140.out) hb); have n1_ := Aside0.mk (blk_below (g := gb141) (o := .cells #[.int .u64 a1_0, .int .u32 a1_1] 25 (0, 0)) (by (with_reducible repeat (first | refine blk_drewN ?_ _ | refine blk_drew ?_ | refine blk_alloc ?_ _)); exact BK141.out) hb); have n2_ := Aside0.mk (blk_below (g := gb142) (o := .cells #[.int .u64 a2_0, .int .u32 a2_1] 25 (0, 0)) (by (with_reducible repeat (first | refine blk_drewN ?_ _ | refine blk_drew ?_ | refine blk_alloc ?_ _)); exact BK142.out) hb); have n3_ := Aside0.mk (blk_below (g := gb147) (o := .cells #[.int .u64 t144, .int .u32 t145] 25 (0, 0)) (by (with_reducible repeat (first | refine blk_drewN ?_ _ | refine blk_drew ?_ | refine blk_alloc ?_ _)); exact BK147.out) hb); have n4_ := Aside0.mk (blk_below (g := gb151) (o := .cells #[.int .u64 t148, .int .u32 t149] 25 (0, 0)) (by (with_reducible repeat (first | refine blk_drewN ?_ _ | refine blk_drew ?_ | refine blk_alloc ?_ _)); exact BK151.out) hb); have n5_ := Aside0.mk (below_step (by repeat (first | (with_reducible first | exact HB.out | apply below_alloc | apply pw_below_drewN | apply below_drew1 | refine below_set ?_ GE140.out | refine below_set ?_ GE141.out | refine below_set ?_ GE142.out | refine below_set ?_ GE147.out | refine below_set ?_ GE151.out) | exact HB.out)) hb); clear BK140; clear BK141; clear BK142; clear BK147; clear BK151; clear HB; have BK140 := n0_; have BK141 := n1_; have BK142 := n2_; have BK147 := n3_; have BK151 := n4_; have HB := n5_; clear n0_ n1_ n2_ n3_ n4_ n5_; (try clear hb); (try clear hb2); (try clear hk); (try clear hi); have hcz625_0 : w624.cell? ⟨gb140, 0, none⟩ = some (.int .u64 a0_0) := (blk_cell BK140.out 0).trans rfl; have hcz625_1 : w624.cell? ⟨gb140, 1, none⟩ = some (.int .u32 a0_1) := (blk_cell BK140.out 1).trans rfl; have hfz625_0 := blk_frozen BK140.out 0; have hfz625_1 := blk_frozen BK140.out 1; have hcz626_0 : w624.cell? ⟨gb141, 0, none⟩ = some (.int .u64 a1_0) := (blk_cell BK141.out 0).trans rfl; have hcz626_1 : w624.cell? ⟨gb141, 1, none⟩ = some (.int .u32 a1_1) := (blk_cell BK141.out 1).trans rfl; have hfz626_0 := blk_frozen BK141.out 0; have hfz626_1 := blk_frozen BK141.out 1) | (go_at_call 11; (with_reducible refine (stamp_Less.calls kj59 a0_0 a0_1 a1_0 a1_1 false _ A592.out).mono ?_); rintro e w627 ⟨rfl, hb⟩; have n0_ := Aside0.mk (blk_below (g := gb140) (o := .cells #[.int .u64 a0_0, .int .u32 a0_1] 25 (0, 0)) (by (with_reducible repeat (first | refine blk_drewN ?_ _ | refine blk_drew ?_ | refine blk_alloc ?_ _)); exact BK140.out) hb); have n1_ := Aside0.mk (blk_below (g := gb141) (o := .cells #[.int .u64 a1_0, .int .u32 a1_1] 25 (0, 0)) (by (with_reducible repeat (first | refine blk_drewN ?_ _ | refine blk_drew ?_ | refine blk_alloc ?_ _)); exact BK141.out) hb); have n2_ := Aside0.mk (blk_below (g := gb142) (o := .cells #[.int .u64 a2_0, .int .u32 a2_1] 25 (0, 0)) (by (with_reducible repeat (first | refine blk_drewN ?_ _ | refine blk_drew ?_ | refine blk_alloc ?_ _)); exact BK142.out) hb); have n3_ := Aside0.mk (blk_below (g := gb147) (o := .cells #[.int .u64 t144, .int .u32 t145] 25 (0, 0)) (by (with_reducible repeat (first | refine blk_drewN ?_ _ | refine blk_drew ?_ | refine blk_alloc ?_ _)); exact BK147.out) hb); have n4_ := Aside0.mk (blk_below (g := gb151) (o := .cells #[.int .u64 t148, .int .u32 t149] 25 (0, 0)) (by (with_reducible repeat (first | refine blk_drewN ?_ _ | refine blk_drew ?_ | refine blk_alloc ?_ _)); exact BK151.out) hb); have n5_ := Aside0.mk (below_step (by repeat (first | (with_reducible first | exact HB.out | apply below_alloc | apply pw_below_drewN | apply below_drew1 | refine below_set ?_ GE140.out | refine below_set ?_ GE141.out | refine below_set ?_ GE142.out | refine below_set ?_ GE147.out | refine below_set ?_ GE151.out) | exact HB.out)) hb); clear BK140; clear BK141; clear BK142; clear BK147; clear BK151; clear HB; have BK140 := n0_; have BK141 := n1_; have BK142 := n2_; have BK147 := n3_; have BK151 := n4_; have HB := n5_; clear n0_ n1_ n2_ n3_ n4_ n5_; (try clear hb); (try clear hb2); (try clear hk); (try clear hi); have hcz628_0 : w627.cell? ⟨gb141, 0, none⟩ = some (.int .u64 a1_0) := (blk_cell BK141.out 0).trans rfl; have hcz628_1 : w627.cell? ⟨gb141, 1, none⟩ = some (.int .u32 a1_1) := (blk_cell BK141.out 1).trans rfl; have hfz628_0 := blk_frozen BK141.out 0; have hfz628_1 := blk_frozen BK141.out 1; have hcz629_0 : w627.cell? ⟨gb140, 0, none⟩ = some (.int .u64 a0_0) := (blk_cell BK140.out 0).trans rfl; have hcz629_1 : w627.cell? ⟨gb140, 1, none⟩ = some (.int .u32 a0_1) := (blk_cell BK140.out 1).trans rfl; have hfz629_0 := blk_frozen BK140.out 0; have hfz629_1 := blk_frozen BK140.out 1) | (go_at_call 11; (with_reducible refine (stamp_Less.calls kj59 a1_0 a1_1 a0_0 a0_1 true _ A610.out).mono ?_); rintro e w630 ⟨rfl, hb⟩; have n0_ := Aside0.mk (blk_below (g := gb140) (o := .cells #[.int .u64 a0_0, .int .u32 a0_1] 25 (0, 0)) (by (with_reducible repeat (first | refine blk_drewN ?_ _ | refine blk_drew ?_ | refine blk_alloc ?_ _)); exact BK140.out) hb); have n1_ := Aside0.mk (blk_below (g := gb141) (o := .cells #[.int .u64 a1_0, .int .u32 a1_1] 25 (0, 0)) (by (with_reducible repeat (first | refine blk_drewN ?_ _ | refine blk_drew ?_ | refine blk_alloc ?_ _)); exact BK141.out) hb); have n2_ := Aside0.mk (blk_below (g := gb142) (o := .cells #[.int .u64 a2_0, .int .u32 a2_1] 25 (0, 0)) (by (with_reducible repeat (first | refine blk_drewN ?_ _ | refine blk_drew ?_ | refine blk_alloc ?_ _)); exact BK142.out) hb); have n3_ := Aside0.mk (blk_below (g := gb147) (o := .cells #[.int .u64 t144, .int .u32 t145] 25 (0, 0)) (by (with_reducible repeat (first | refine blk_drewN ?_ _ | refine blk_drew ?_ | refine blk_alloc ?_ _)); exact BK147.out) hb); have n4_ := Aside0.mk (blk_below (g := gb151) (o := .cells #[.int .u64 t148, .int .u32 t149] 25 (0, 0)) (by (with_reducible repeat (first | refine blk_drewN ?_ _ | refine blk_drew ?_ | refine blk_alloc ?_ _)); exact BK151.out) hb); have n5_ := Aside0.mk (below_step (by repeat (first | (with_reducible first | exact HB.out | apply below_alloc | apply pw_below_drewN | apply below_drew1 | refine below_set ?_ GE140.out | refine below_set ?_ GE141.out | refine below_set ?_ GE142.out | refine below_set ?_ GE147.out | refine below_set ?_ GE151.out) | exact HB.out)) hb); clear BK140; clear BK141; clear BK142; clear BK147; clear BK151; clear HB; have BK140 := n0_; have BK141 := n1_; have BK142 := n2_; have BK147 := n3_; have BK151 := n4_; have HB := n5_; clear n0_ n1_ n2_ n3_ n4_ n5_; (try clear hb); (try clear hb2); (try clear hk); (try clear hi)))
                          go_meet
                          case rel => exact ⟨_, (false), (by first | rfl | (simp; done) | (simp [*]; done)), H', ⟨by have := HJ7.out; have := HJ59.out; first | omega | exact Nat.le_refl _⟩, ⟨by (with_reducible repeat (first | refine blk_drewN ?_ _ | refine blk_drew ?_ | refine blk_alloc ?_ _)); exact BK140.out⟩, ⟨by (with_reducible repeat (first | refine blk_drewN ?_ _ | refine blk_drew ?_ | refine blk_alloc ?_ _)); exact BK141.out⟩, ⟨by (with_reducible repeat (first | refine blk_drewN ?_ _ | refine blk_drew ?_ | refine blk_alloc ?_ _)); exact BK142.out⟩, ⟨by (with_reducible repeat (first | refine blk_drewN ?_ _ | refine blk_drew ?_ | refine blk_alloc ?_ _)); exact BK147.out⟩, ⟨by (with_reducible repeat (first | refine blk_drewN ?_ _ | refine blk_drew ?_ | refine blk_alloc ?_ _)); exact BK151.out⟩, ⟨by repeat (first | (with_reducible first | exact HB.out | apply below_alloc | apply pw_below_drewN | apply below_drew1 | refine below_set ?_ GE140.out | refine below_set ?_ GE141.out | refine below_set ?_ GE142.out | refine below_set ?_ GE147.out | refine below_set ?_ GE151.out) | exact HB.out)⟩⟩
                        · replace c611 := Bool.eq_false_iff.mpr c611
                          subst c611
                          have H1 : (dovecotelaw01_StampOrders.j2 kj59 t146 (!(a0_0 == a1_0) || (!(a0_1 == a1_1))) a0_0 a0_1 a1_0 a1_1 t144 t145) = some r := by rw [if_neg (show ¬ (false = true) by decide)] at H; exact H
                          clear H
                          have H := H1
                          clear H1
                          have H' := Aside0.mk H
                          clear H
                          have hnb631 := NB140_141.out
                          have hnc631 := NB141_140.out
                          have hnb632 := NB140_142.out
                          have hnc632 := NB142_140.out
                          have hnb633 := NB140_147.out
                          have hnc633 := NB147_140.out
                          have hnb634 := NB140_151.out
                          have hnc634 := NB151_140.out
                          have hcz635_0 : wc.cell? ⟨gb140, 0, none⟩ = some (.int .u64 a0_0) := (blk_cell BK140.out 0).trans rfl
                          have hcz635_1 : wc.cell? ⟨gb140, 1, none⟩ = some (.int .u32 a0_1) := (blk_cell BK140.out 1).trans rfl
                          have hfz635_0 := blk_frozen BK140.out 0
                          have hfz635_1 := blk_frozen BK140.out 1
                          have hnb636 := NB141_142.out
                          have hnc636 := NB142_141.out
                          have hnb637 := NB141_147.out
                          have hnc637 := NB147_141.out
                          have hnb638 := NB141_151.out
                          have hnc638 := NB151_141.out
                          have hcz639_0 : wc.cell? ⟨gb141, 0, none⟩ = some (.int .u64 a1_0) := (blk_cell BK141.out 0).trans rfl
                          have hcz639_1 : wc.cell? ⟨gb141, 1, none⟩ = some (.int .u32 a1_1) := (blk_cell BK141.out 1).trans rfl
                          have hfz639_0 := blk_frozen BK141.out 0
                          have hfz639_1 := blk_frozen BK141.out 1
                          go_wp2_with (first | ((with_reducible refine gate_callee (f := 11) rfl ?_); refine goesL_ (some 72) rfl rfl Tryd.func11 (by kernel_rfl) rfl #[.agg #[.int .u64 a0_0, .int .u32 a0_1], .agg #[.int .u64 a1_0, .int .u32 a1_1]] rfl (by (try simp only [List.map_toArray, List.map_cons, List.map_nil]); first | done | rfl | (simp only [List.length_drop, List.length_take]; rfl)) ?_; (with_reducible refine (stamp_Less.calls kj59 a0_0 a0_1 a1_0 a1_1 false _ A97.out).mono ?_); rintro e w640 ⟨rfl, hb⟩; refine ⟨_, rfl, ?_⟩; have n0_ := Aside0.mk (blk_below (g := gb140) (o := .cells #[.int .u64 a0_0, .int .u32 a0_1] 25 (0, 0)) (by (with_reducible repeat (first | refine blk_drewN ?_ _ | refine blk_drew ?_ | refine blk_alloc ?_ _)); exact BK140.out) hb); have n1_ := Aside0.mk (blk_below (g := gb141) (o := .cells #[.int .u64 a1_0, .int .u32 a1_1] 25 (0, 0)) (by (with_reducible repeat (first | refine blk_drewN ?_ _ | refine blk_drew ?_ | refine blk_alloc ?_ _)); exact BK141.out) hb); have n2_ := Aside0.mk (blk_below (g := gb142) (o := .cells #[.int .u64 a2_0, .int .u32 a2_1] 25 (0, 0)) (by (with_reducible repeat (first | refine blk_drewN ?_ _ | refine blk_drew ?_ | refine blk_alloc ?_ _)); exact BK142.out) hb); have n3_ := Aside0.mk (blk_below (g := gb147) (o := .cells #[.int .u64 t144, .int .u32 t145] 25 (0, 0)) (by (with_reducible repeat (first | refine blk_drewN ?_ _ | refine blk_drew ?_ | refine blk_alloc ?_ _)); exact BK147.out) hb); have n4_ := Aside0.mk (blk_below (g := gb151) (o := .cells #[.int .u64 t148, .int .u32 t149] 25 (0, 0)) (by (with_reducible repeat (first | refine blk_drewN ?_ _ | refine blk_drew ?_ | refine blk_alloc ?_ _)); exact BK151.out) hb); have n5_ := Aside0.mk (below_step (by repeat (first | (with_reducible first | exact HB.out | apply below_alloc | apply pw_below_drewN | apply below_drew1 | refine below_set ?_ GE140.out | refine below_set ?_ GE141.out | refine below_set ?_ GE142.out | refine below_set ?_ GE147.out | refine below_set ?_ GE151.out) | exact HB.out)) hb); clear BK140; clear BK141; clear BK142; clear BK147; clear BK151; clear HB; have BK140 := n0_; have BK141 := n1_; have BK142 := n2_; have BK147 := n3_; have BK151 := n4_; have HB := n5_; clear n0_ n1_ n2_ n3_ n4_ n5_; (try clear hb); (try clear hb2); (try clear hk); (try clear hi); have hcz641_0 : w640.cell? ⟨gb140, 0, none⟩ = some (.int .u64 a0_0) := (blk_cell BK140.out 0).trans rfl; have hcz641_1 : w640.cell? ⟨gb140, 1, none⟩ = some (.int .u32 a0_1) := (blk_cell BK140.out 1).trans rfl; have hfz641_0 := blk_frozen BK140.out 0; have hfz641_1 := blk_frozen BK140.out 1; have hcz642_0 : w640.cell? ⟨gb141, 0, none⟩ = some (.int .u64 a1_0) := (blk_cell BK141.out 0).trans rfl; have hcz642_1 : w640.cell? ⟨gb141, 1, none⟩ = some (.int .u32 a1_1) := (blk_cell BK141.out 1).trans rfl; have hfz642_0 := blk_frozen BK141.out 0; have hfz642_1 := blk_frozen BK141.out 1) | (go_at_call 11; (with_reducible refine (stamp_Less.calls kj59 a0_0 a0_1 a1_0 a1_1 false _ A406.out).mono ?_); rintro e w643 ⟨rfl, hb⟩; have n0_ := Aside0.mk (blk_below (g := gb140) (o := .cells #[.int .u64 a0_0, .int .u32 a0_1] 25 (0, 0)) (by (with_reducible repeat (first | refine blk_drewN ?_ _ | refine blk_drew ?_ | refine blk_alloc ?_ _)); exact BK140.out) hb); have n1_ := Aside0.mk (blk_below (g := gb141) (o := .cells #[.int .u64 a1_0, .int .u32 a1_1] 25 (0, 0)) (by (with_reducible repeat (first | refine blk_drewN ?_ _ | refine blk_drew ?_ | refine blk_alloc ?_ _)); exact BK141.out) hb); have n2_ := Aside0.mk (blk_below (g := gb142) (o := .cells #[.int .u64 a2_0, .int .u32 a2_1] 25 (0, 0)) (by (with_reducible repeat (first | refine blk_drewN ?_ _ | refine blk_drew ?_ | refine blk_alloc ?_ _)); exact BK142.out) hb); have n3_ := Aside0.mk (blk_below (g := gb147) (o := .cells #[.int .u64 t144, .int .u32 t145] 25 (0, 0)) (by (with_reducible repeat (first | refine blk_drewN ?_ _ | refine blk_drew ?_ | refine blk_alloc ?_ _)); exact BK147.out) hb); have n4_ := Aside0.mk (blk_below (g := gb151) (o := .cells #[.int .u64 t148, .int .u32 t149] 25 (0, 0)) (by (with_reducible repeat (first | refine blk_drewN ?_ _ | refine blk_drew ?_ | refine blk_alloc ?_ _)); exact BK151.out) hb); have n5_ := Aside0.mk (below_step (by repeat (first | (with_reducible first | exact HB.out | apply below_alloc | apply pw_below_drewN | apply below_drew1 | refine below_set ?_ GE140.out | refine below_set ?_ GE141.out | refine below_set ?_ GE142.out | refine below_set ?_ GE147.out | refine below_set ?_ GE151.out) | exact HB.out)) hb); clear BK140; clear BK141; clear BK142; clear BK147; clear BK151; clear HB; have BK140 := n0_; have BK141 := n1_; have BK142 := n2_; have BK147 := n3_; have BK151 := n4_; have HB := n5_; clear n0_ n1_ n2_ n3_ n4_ n5_; (try clear hb); (try clear hb2); (try clear hk); (try clear hi); have hcz644_0 : w643.cell? ⟨gb140, 0, none⟩ = some (.int .u64 a0_0) := (blk_cell BK140.out 0).trans rfl; have hcz644_1 : w643.cell? ⟨gb140, 1, none⟩ = some (.int .u32 a0_1) := (blk_cell BK140.out 1).trans rfl; have hfz644_0 := blk_frozen BK140.out 0; have hfz644_1 := blk_frozen BK140.out 1; have hcz645_0 : w643.cell? ⟨gb141, 0, none⟩ = some (.int .u64 a1_0) := (blk_cell BK141.out 0).trans rfl; have hcz645_1 : w643.cell? ⟨gb141, 1, none⟩ = some (.int .u32 a1_1) := (blk_cell BK141.out 1).trans rfl; have hfz645_0 := blk_frozen BK141.out 0; have hfz645_1 := blk_frozen BK141.out 1) | (go_at_call 11; (with_reducible refine (stamp_Less.calls kj59 a0_0 a0_1 a1_0 a1_1 false _ A592.out).mono ?_); rintro e w646 ⟨rfl, hb⟩; have n0_ := Aside0.mk (blk_below (g := gb140) (o := .cells #[.int .u64 a0_0, .int .u32 a0_1] 25 (0, 0)) (by (with_reducible repeat (first | refine blk_drewN ?_ _ | refine blk_drew ?_ | refine blk_alloc ?_ _)); exact BK140.out) hb); have n1_ := Aside0.mk (blk_below (g := gb141) (o := .cells #[.int .u64 a1_0, .int .u32 a1_1] 25 (0, 0)) (by (with_reducible repeat (first | refine blk_drewN ?_ _ | refine blk_drew ?_ | refine blk_alloc ?_ _)); exact BK141.out) hb); have n2_ := Aside0.mk (blk_below (g := gb142) (o := .cells #[.int .u64 a2_0, .int .u32 a2_1] 25 (0, 0)) (by (with_reducible repeat (first | refine blk_drewN ?_ _ | refine blk_drew ?_ | refine blk_alloc ?_ _)); exact BK142.out) hb); have n3_ := Aside0.mk (blk_below (g := gb147) (o := .cells #[.int .u64 t144, .int .u32 t145] 25 (0, 0)) (by (with_reducible repeat (first | refine blk_drewN ?_ _ | refine blk_drew ?_ | refine blk_alloc ?_ _)); exact BK147.out) hb); have n4_ := Aside0.mk (blk_below (g := gb151) (o := .cells #[.int .u64 t148, .int .u32 t149] 25 (0, 0)) (by (with_reducible repeat (first | refine blk_drewN ?_ _ | refine blk_drew ?_ | refine blk_alloc ?_ _)); exact BK151.out) hb); have n5_ := Aside0.mk (below_step (by repeat (first | (with_reducible first | exact HB.out | apply below_alloc | apply pw_below_drewN | apply below_drew1 | refine below_set ?_ GE140.out | refine below_set ?_ GE141.out | refine below_set ?_ GE142.out | refine below_set ?_ GE147.out | refine below_set ?_ GE151.out) | exact HB.out)) hb); clear BK140; clear BK141; clear BK142; clear BK147; clear BK151; clear HB; have BK140 := n0_; have BK141 := n1_; have BK142 := n2_; have BK147 := n3_; have BK151 := n4_; have HB := n5_; clear n0_ n1_ n2_ n3_ n4_ n5_; (try clear hb); (try clear hb2); (try clear hk); (try clear hi); have hcz647_0 : w646.cell? ⟨gb141, 0, none⟩ = some (.int .u64 a1_0) := (blk_cell BK141.out 0).trans rfl; have hcz647_1 : w646.cell? ⟨gb141, 1, none⟩ = some (.int .u32 a1_1) := (blk_cell BK141.out 1).trans rfl; have hfz647_0 := blk_frozen BK141.out 0; have hfz647_1 := blk_frozen BK141.out 1; have hcz648_0 : w646.cell? ⟨gb140, 0, none⟩ = some (.int .u64 a0_0) := (blk_cell BK140.out 0).trans rfl; have hcz648_1 : w646.cell? ⟨gb140, 1, none⟩ = some (.int .u32 a0_1) := (blk_cell BK140.out 1).trans rfl; have hfz648_0 := blk_frozen BK140.out 0; have hfz648_1 := blk_frozen BK140.out 1) | (go_at_call 11; (with_reducible refine (stamp_Less.calls kj59 a1_0 a1_1 a0_0 a0_1 false _ A610.out).mono ?_); rintro e w649 ⟨rfl, hb⟩; have n0_ := Aside0.mk (blk_below (g := gb140) (o := .cells #[.int .u64 a0_0, .int .u32 a0_1] 25 (0, 0)) (by (with_reducible repeat (first | refine blk_drewN ?_ _ | refine blk_drew ?_ | refine blk_alloc ?_ _)); exact BK140.out) hb); have n1_ := Aside0.mk (blk_below (g := gb141) (o := .cells #[.int .u64 a1_0, .int .u32 a1_1] 25 (0, 0)) (by (with_reducible repeat (first | refine blk_drewN ?_ _ | refine blk_drew ?_ | refine blk_alloc ?_ _)); exact BK141.out) hb); have n2_ := Aside0.mk (blk_below (g := gb142) (o := .cells #[.int .u64 a2_0, .int .u32 a2_1] 25 (0, 0)) (by (with_reducible repeat (first | refine blk_drewN ?_ _ | refine blk_drew ?_ | refine blk_alloc ?_ _)); exact BK142.out) hb); have n3_ := Aside0.mk (blk_below (g := gb147) (o := .cells #[.int .u64 t144, .int .u32 t145] 25 (0, 0)) (by (with_reducible repeat (first | refine blk_drewN ?_ _ | refine blk_drew ?_ | refine blk_alloc ?_ _)); exact BK147.out) hb); have n4_ := Aside0.mk (blk_below (g := gb151) (o := .cells #[.int .u64 t148, .int .u32 t149] 25 (0, 0)) (by (with_reducible repeat (first | refine blk_drewN ?_ _ | refine blk_drew ?_ | refine blk_alloc ?_ _)); exact BK151.out) hb); have n5_ := Aside0.mk (below_step (by repeat (first | (with_reducible first | exact HB.out | apply below_alloc | apply pw_below_drewN | apply below_drew1 | refine below_set ?_ GE140.out | refine below_set ?_ GE141.out | refine below_set ?_ GE142.out | refine below_set ?_ GE147.out | refine below_set ?_ GE151.out) | exact HB.out)) hb); clear BK140; clear BK141; clear BK142; clear BK147; clear BK151; clear HB; have BK140 := n0_; have BK141 := n1_; have BK142 := n2_; have BK147 := n3_; have BK151 := n4_; have HB := n5_; clear n0_ n1_ n2_ n3_ n4_ n5_; (try clear hb); (try clear hb2); (try clear hk); (try clear hi); have hcz650_0 : w649.cell? ⟨gb140, 0, none⟩ = some (.int .u64 a0_0) := (blk_cell BK140.out 0).trans rfl; have hcz650_1 : w649.cell? ⟨gb140, 1, none⟩ = some (.int .u32 a0_1) := (blk_cell BK140.out 1).trans rfl; have hfz650_0 := blk_frozen BK140.out 0; have hfz650_1 := blk_frozen BK140.out 1; have hcz651_0 : w649.cell? ⟨gb141, 0, none⟩ = some (.int .u64 a1_0) := (blk_cell BK141.out 0).trans rfl; have hcz651_1 : w649.cell? ⟨gb141, 1, none⟩ = some (.int .u32 a1_1) := (blk_cell BK141.out 1).trans rfl; have hfz651_0 := blk_frozen BK141.out 0; have hfz651_1 := blk_frozen BK141.out 1))
                          go_meet
                          case rel => exact ⟨_, ((!(a0_0 == a1_0) || (!(a0_1 == a1_1)))), (by first | rfl | (simp; done) | (simp [*]; done)), H', ⟨by have := HJ7.out; have := HJ59.out; first | omega | exact Nat.le_refl _⟩, ⟨by (with_reducible repeat (first | refine blk_drewN ?_ _ | refine blk_drew ?_ | refine blk_alloc ?_ _)); exact BK140.out⟩, ⟨by (with_reducible repeat (first | refine blk_drewN ?_ _ | refine blk_drew ?_ | refine blk_alloc ?_ _)); exact BK141.out⟩, ⟨by (with_reducible repeat (first | refine blk_drewN ?_ _ | refine blk_drew ?_ | refine blk_alloc ?_ _)); exact BK142.out⟩, ⟨by (with_reducible repeat (first | refine blk_drewN ?_ _ | refine blk_drew ?_ | refine blk_alloc ?_ _)); exact BK147.out⟩, ⟨by (with_reducible repeat (first | refine blk_drewN ?_ _ | refine blk_drew ?_ | refine blk_alloc ?_ _)); exact BK151.out⟩, ⟨by repeat (first | (with_reducible first | exact HB.out | apply below_alloc | apply pw_below_drewN | apply below_drew1 | refine below_set ?_ GE140.out | refine below_set ?_ GE141.out | refine below_set ?_ GE142.out | refine below_set ?_ GE147.out | refine below_set ?_ GE151.out) | exact HB.out)⟩⟩
                case rest =>
                  clear HC96
                  try clear c1
                  try clear c2
                  try clear p2
                  try clear c3
                  try clear c4
                  try clear c5
                  try clear c6
                  try clear c9
                  try clear c11
                  try clear c13
                  try clear c28
                  try clear c29
                  try clear c30
                  try clear c31
                  try clear c32
                  try clear c33
                  try clear c34
                  try clear c35
                  try clear c36
                  try clear c38
                  try clear c40
                  try clear c41
                  try clear c42
                  try clear c43
                  try clear c44
                  try clear c45
                  try clear c46
                  try clear c47
                  try clear c48
                  try clear c49
                  try clear c50
                  try clear c51
                  try clear c52
                  try clear c53
                  try clear c54
                  try clear c55
                  try clear c56
                  try clear c57
                  try clear c58
                  try clear c59
                  try clear c60
                  try clear c61
                  try clear c63
                  try clear c98
                  try clear c131
                  try clear c280
                  try clear c286
                  try clear c287
                  try clear c288
                  try clear c298
                  try clear c299
                  try clear c308
                  try clear c309
                  try clear c310
                  try clear c311
                  try clear c313
                  try clear c314
                  try clear c315
                  try clear c325
                  try clear c326
                  try clear c338
                  try clear c339
                  try clear c340
                  try clear c341
                  try clear c342
                  try clear c344
                  try clear c345
                  try clear c346
                  try clear c359
                  try clear c360
                  try clear c361
                  try clear c362
                  try clear c363
                  try clear c365
                  try clear c366
                  try clear c367
                  try clear c382
                  try clear c383
                  try clear c384
                  try clear c385
                  try clear c387
                  try clear c388
                  try clear c389
                  try clear c407
                  try clear c409
                  try clear c411
                  try clear c413
                  try clear c414
                  try clear c415
                  try clear c416
                  try clear c417
                  try clear c419
                  try clear c420
                  try clear c421
                  try clear c428
                  try clear c429
                  try clear c439
                  try clear c440
                  try clear c441
                  try clear c442
                  try clear c443
                  try clear c445
                  try clear c446
                  try clear c447
                  try clear c454
                  try clear c455
                  try clear c467
                  try clear c468
                  try clear c469
                  try clear c470
                  try clear c472
                  try clear c473
                  try clear c474
                  try clear c481
                  try clear c482
                  try clear c496
                  try clear c497
                  try clear c498
                  try clear c499
                  try clear c501
                  try clear c502
                  try clear c503
                  try clear c510
                  try clear c511
                  try clear c518
                  try clear c519
                  try clear c520
                  try clear c521
                  try clear c522
                  try clear c524
                  try clear c525
                  try clear c526
                  try clear c533
                  try clear c534
                  try clear c541
                  try clear c542
                  try clear c543
                  try clear c544
                  try clear c545
                  try clear c547
                  try clear c548
                  try clear c549
                  try clear c556
                  try clear c557
                  try clear c566
                  try clear c567
                  try clear c568
                  try clear c569
                  try clear c571
                  try clear c572
                  try clear c573
                  try clear c580
                  try clear c581
                  try clear c593
                  try clear c594
                  try clear c595
                  try clear c596
                  try clear c597
                  try clear c599
                  try clear c600
                  try clear c601
                  try clear c611
                  try clear c612
                  try clear c613
                  try clear c614
                  try clear c615
                  try clear c617
                  try clear c618
                  try clear c619
                  try clear c631
                  try clear c632
                  try clear c633
                  try clear c634
                  try clear c636
                  try clear c637
                  try clear c638
                  try clear hcz289_0
                  try clear hcz289_1
                  try clear hcz291_0
                  try clear hcz291_1
                  try clear hcz292_0
                  try clear hcz292_1
                  try clear hcz294_0
                  try clear hcz294_1
                  try clear hcz295_0
                  try clear hcz295_1
                  try clear hcz297_0
                  try clear hcz297_1
                  try clear hcz300_0
                  try clear hcz300_1
                  try clear hcz302_0
                  try clear hcz302_1
                  try clear hcz303_0
                  try clear hcz303_1
                  try clear hcz305_0
                  try clear hcz305_1
                  try clear hcz306_0
                  try clear hcz306_1
                  try clear hcz312_0
                  try clear hcz312_1
                  try clear hcz316_0
                  try clear hcz316_1
                  try clear hcz318_0
                  try clear hcz318_1
                  try clear hcz319_0
                  try clear hcz319_1
                  try clear hcz321_0
                  try clear hcz321_1
                  try clear hcz322_0
                  try clear hcz322_1
                  try clear hcz324_0
                  try clear hcz324_1
                  try clear hcz327_0
                  try clear hcz327_1
                  try clear hcz329_0
                  try clear hcz329_1
                  try clear hcz330_0
                  try clear hcz330_1
                  try clear hcz332_0
                  try clear hcz332_1
                  try clear hcz333_0
                  try clear hcz333_1
                  try clear hcz335_0
                  try clear hcz335_1
                  try clear hcz336_0
                  try clear hcz336_1
                  try clear hcz343_0
                  try clear hcz343_1
                  try clear hcz347_0
                  try clear hcz347_1
                  try clear hcz349_0
                  try clear hcz349_1
                  try clear hcz350_0
                  try clear hcz350_1
                  try clear hcz352_0
                  try clear hcz352_1
                  try clear hcz353_0
                  try clear hcz353_1
                  try clear hcz355_0
                  try clear hcz355_1
                  try clear hcz356_0
                  try clear hcz356_1
                  try clear hcz364_0
                  try clear hcz364_1
                  try clear hcz368_0
                  try clear hcz368_1
                  try clear hcz370_0
                  try clear hcz370_1
                  try clear hcz371_0
                  try clear hcz371_1
                  try clear hcz373_0
                  try clear hcz373_1
                  try clear hcz374_0
                  try clear hcz374_1
                  try clear hcz376_0
                  try clear hcz376_1
                  try clear hcz377_0
                  try clear hcz377_1
                  try clear hcz379_0
                  try clear hcz379_1
                  try clear hcz380_0
                  try clear hcz380_1
                  try clear hcz386_0
                  try clear hcz386_1
                  try clear hcz390_0
                  try clear hcz390_1
                  try clear hcz392_0
                  try clear hcz392_1
                  try clear hcz393_0
                  try clear hcz393_1
                  try clear hcz395_0
                  try clear hcz395_1
                  try clear hcz396_0
                  try clear hcz396_1
                  try clear hcz398_0
                  try clear hcz398_1
                  try clear hcz399_0
                  try clear hcz399_1
                  try clear hcz401_0
                  try clear hcz401_1
                  try clear hcz402_0
                  try clear hcz402_1
                  try clear hcz404_0
                  try clear hcz404_1
                  try clear hcz405_0
                  try clear hcz405_1
                  try clear hcz418_0
                  try clear hcz418_1
                  try clear hcz422_0
                  try clear hcz422_1
                  try clear hcz424_0
                  try clear hcz424_1
                  try clear hcz425_0
                  try clear hcz425_1
                  try clear hcz427_0
                  try clear hcz427_1
                  try clear hcz430_0
                  try clear hcz430_1
                  try clear hcz432_0
                  try clear hcz432_1
                  try clear hcz433_0
                  try clear hcz433_1
                  try clear hcz435_0
                  try clear hcz435_1
                  try clear hcz436_0
                  try clear hcz436_1
                  try clear hcz444_0
                  try clear hcz444_1
                  try clear hcz448_0
                  try clear hcz448_1
                  try clear hcz450_0
                  try clear hcz450_1
                  try clear hcz451_0
                  try clear hcz451_1
                  try clear hcz453_0
                  try clear hcz453_1
                  try clear hcz456_0
                  try clear hcz456_1
                  try clear hcz458_0
                  try clear hcz458_1
                  try clear hcz459_0
                  try clear hcz459_1
                  try clear hcz461_0
                  try clear hcz461_1
                  try clear hcz462_0
                  try clear hcz462_1
                  try clear hcz464_0
                  try clear hcz464_1
                  try clear hcz465_0
                  try clear hcz465_1
                  try clear hcz471_0
                  try clear hcz471_1
                  try clear hcz475_0
                  try clear hcz475_1
                  try clear hcz477_0
                  try clear hcz477_1
                  try clear hcz478_0
                  try clear hcz478_1
                  try clear hcz480_0
                  try clear hcz480_1
                  try clear hcz483_0
                  try clear hcz483_1
                  try clear hcz485_0
                  try clear hcz485_1
                  try clear hcz486_0
                  try clear hcz486_1
                  try clear hcz488_0
                  try clear hcz488_1
                  try clear hcz489_0
                  try clear hcz489_1
                  try clear hcz491_0
                  try clear hcz491_1
                  try clear hcz492_0
                  try clear hcz492_1
                  try clear hcz494_0
                  try clear hcz494_1
                  try clear hcz495_0
                  try clear hcz495_1
                  try clear hcz500_0
                  try clear hcz500_1
                  try clear hcz504_0
                  try clear hcz504_1
                  try clear hcz506_0
                  try clear hcz506_1
                  try clear hcz507_0
                  try clear hcz507_1
                  try clear hcz509_0
                  try clear hcz509_1
                  try clear hcz512_0
                  try clear hcz512_1
                  try clear hcz514_0
                  try clear hcz514_1
                  try clear hcz515_0
                  try clear hcz515_1
                  try clear hcz523_0
                  try clear hcz523_1
                  try clear hcz527_0
                  try clear hcz527_1
                  try clear hcz529_0
                  try clear hcz529_1
                  try clear hcz530_0
                  try clear hcz530_1
                  try clear hcz532_0
                  try clear hcz532_1
                  try clear hcz535_0
                  try clear hcz535_1
                  try clear hcz537_0
                  try clear hcz537_1
                  try clear hcz538_0
                  try clear hcz538_1
                  try clear hcz546_0
                  try clear hcz546_1
                  try clear hcz550_0
                  try clear hcz550_1
                  try clear hcz552_0
                  try clear hcz552_1
                  try clear hcz553_0
                  try clear hcz553_1
                  try clear hcz555_0
                  try clear hcz555_1
                  try clear hcz558_0
                  try clear hcz558_1
                  try clear hcz560_0
                  try clear hcz560_1
                  try clear hcz561_0
                  try clear hcz561_1
                  try clear hcz563_0
                  try clear hcz563_1
                  try clear hcz564_0
                  try clear hcz564_1
                  try clear hcz570_0
                  try clear hcz570_1
                  try clear hcz574_0
                  try clear hcz574_1
                  try clear hcz576_0
                  try clear hcz576_1
                  try clear hcz577_0
                  try clear hcz577_1
                  try clear hcz579_0
                  try clear hcz579_1
                  try clear hcz582_0
                  try clear hcz582_1
                  try clear hcz584_0
                  try clear hcz584_1
                  try clear hcz585_0
                  try clear hcz585_1
                  try clear hcz587_0
                  try clear hcz587_1
                  try clear hcz588_0
                  try clear hcz588_1
                  try clear hcz590_0
                  try clear hcz590_1
                  try clear hcz591_0
                  try clear hcz591_1
                  try clear hcz598_0
                  try clear hcz598_1
                  try clear hcz602_0
                  try clear hcz602_1
                  try clear hcz604_0
                  try clear hcz604_1
                  try clear hcz605_0
                  try clear hcz605_1
                  try clear hcz607_0
                  try clear hcz607_1
                  try clear hcz608_0
                  try clear hcz608_1
                  try clear hcz616_0
                  try clear hcz616_1
                  try clear hcz620_0
                  try clear hcz620_1
                  try clear hcz622_0
                  try clear hcz622_1
                  try clear hcz623_0
                  try clear hcz623_1
                  try clear hcz625_0
                  try clear hcz625_1
                  try clear hcz626_0
                  try clear hcz626_1
                  try clear hcz628_0
                  try clear hcz628_1
                  try clear hcz629_0
                  try clear hcz629_1
                  try clear hcz635_0
                  try clear hcz635_1
                  try clear hcz639_0
                  try clear hcz639_1
                  try clear hcz641_0
                  try clear hcz641_1
                  try clear hcz642_0
                  try clear hcz642_1
                  try clear hcz644_0
                  try clear hcz644_1
                  try clear hcz645_0
                  try clear hcz645_1
                  try clear hcz647_0
                  try clear hcz647_1
                  try clear hcz648_0
                  try clear hcz648_1
                  try clear hcz650_0
                  try clear hcz650_1
                  try clear hcz651_0
                  try clear hcz651_1
                  try clear hfz285_0
                  try clear hfz285_1
                  try clear hfz289_0
                  try clear hfz289_1
                  try clear hfz291_0
                  try clear hfz291_1
                  try clear hfz292_0
                  try clear hfz292_1
                  try clear hfz294_0
                  try clear hfz294_1
                  try clear hfz295_0
                  try clear hfz295_1
                  try clear hfz297_0
                  try clear hfz297_1
                  try clear hfz300_0
                  try clear hfz300_1
                  try clear hfz302_0
                  try clear hfz302_1
                  try clear hfz303_0
                  try clear hfz303_1
                  try clear hfz305_0
                  try clear hfz305_1
                  try clear hfz306_0
                  try clear hfz306_1
                  try clear hfz312_0
                  try clear hfz312_1
                  try clear hfz316_0
                  try clear hfz316_1
                  try clear hfz318_0
                  try clear hfz318_1
                  try clear hfz319_0
                  try clear hfz319_1
                  try clear hfz321_0
                  try clear hfz321_1
                  try clear hfz322_0
                  try clear hfz322_1
                  try clear hfz324_0
                  try clear hfz324_1
                  try clear hfz327_0
                  try clear hfz327_1
                  try clear hfz329_0
                  try clear hfz329_1
                  try clear hfz330_0
                  try clear hfz330_1
                  try clear hfz332_0
                  try clear hfz332_1
                  try clear hfz333_0
                  try clear hfz333_1
                  try clear hfz335_0
                  try clear hfz335_1
                  try clear hfz336_0
                  try clear hfz336_1
                  try clear hfz343_0
                  try clear hfz343_1
                  try clear hfz347_0
                  try clear hfz347_1
                  try clear hfz349_0
                  try clear hfz349_1
                  try clear hfz350_0
                  try clear hfz350_1
                  try clear hfz352_0
                  try clear hfz352_1
                  try clear hfz353_0
                  try clear hfz353_1
                  try clear hfz355_0
                  try clear hfz355_1
                  try clear hfz356_0
                  try clear hfz356_1
                  try clear hfz364_0
                  try clear hfz364_1
                  try clear hfz368_0
                  try clear hfz368_1
                  try clear hfz370_0
                  try clear hfz370_1
                  try clear hfz371_0
                  try clear hfz371_1
                  try clear hfz373_0
                  try clear hfz373_1
                  try clear hfz374_0
                  try clear hfz374_1
                  try clear hfz376_0
                  try clear hfz376_1
                  try clear hfz377_0
                  try clear hfz377_1
                  try clear hfz379_0
                  try clear hfz379_1
                  try clear hfz380_0
                  try clear hfz380_1
                  try clear hfz386_0
                  try clear hfz386_1
                  try clear hfz390_0
                  try clear hfz390_1
                  try clear hfz392_0
                  try clear hfz392_1
                  try clear hfz393_0
                  try clear hfz393_1
                  try clear hfz395_0
                  try clear hfz395_1
                  try clear hfz396_0
                  try clear hfz396_1
                  try clear hfz398_0
                  try clear hfz398_1
                  try clear hfz399_0
                  try clear hfz399_1
                  try clear hfz401_0
                  try clear hfz401_1
                  try clear hfz402_0
                  try clear hfz402_1
                  try clear hfz404_0
                  try clear hfz404_1
                  try clear hfz405_0
                  try clear hfz405_1
                  try clear hfz418_0
                  try clear hfz418_1
                  try clear hfz422_0
                  try clear hfz422_1
                  try clear hfz424_0
                  try clear hfz424_1
                  try clear hfz425_0
                  try clear hfz425_1
                  try clear hfz427_0
                  try clear hfz427_1
                  try clear hfz430_0
                  try clear hfz430_1
                  try clear hfz432_0
                  try clear hfz432_1
                  try clear hfz433_0
                  try clear hfz433_1
                  try clear hfz435_0
                  try clear hfz435_1
                  try clear hfz436_0
                  try clear hfz436_1
                  try clear hfz444_0
                  try clear hfz444_1
                  try clear hfz448_0
                  try clear hfz448_1
                  try clear hfz450_0
                  try clear hfz450_1
                  try clear hfz451_0
                  try clear hfz451_1
                  try clear hfz453_0
                  try clear hfz453_1
                  try clear hfz456_0
                  try clear hfz456_1
                  try clear hfz458_0
                  try clear hfz458_1
                  try clear hfz459_0
                  try clear hfz459_1
                  try clear hfz461_0
                  try clear hfz461_1
                  try clear hfz462_0
                  try clear hfz462_1
                  try clear hfz464_0
                  try clear hfz464_1
                  try clear hfz465_0
                  try clear hfz465_1
                  try clear hfz471_0
                  try clear hfz471_1
                  try clear hfz475_0
                  try clear hfz475_1
                  try clear hfz477_0
                  try clear hfz477_1
                  try clear hfz478_0
                  try clear hfz478_1
                  try clear hfz480_0
                  try clear hfz480_1
                  try clear hfz483_0
                  try clear hfz483_1
                  try clear hfz485_0
                  try clear hfz485_1
                  try clear hfz486_0
                  try clear hfz486_1
                  try clear hfz488_0
                  try clear hfz488_1
                  try clear hfz489_0
                  try clear hfz489_1
                  try clear hfz491_0
                  try clear hfz491_1
                  try clear hfz492_0
                  try clear hfz492_1
                  try clear hfz494_0
                  try clear hfz494_1
                  try clear hfz495_0
                  try clear hfz495_1
                  try clear hfz500_0
                  try clear hfz500_1
                  try clear hfz504_0
                  try clear hfz504_1
                  try clear hfz506_0
                  try clear hfz506_1
                  try clear hfz507_0
                  try clear hfz507_1
                  try clear hfz509_0
                  try clear hfz509_1
                  try clear hfz512_0
                  try clear hfz512_1
                  try clear hfz514_0
                  try clear hfz514_1
                  try clear hfz515_0
                  try clear hfz515_1
                  try clear hfz523_0
                  try clear hfz523_1
                  try clear hfz527_0
                  try clear hfz527_1
                  try clear hfz529_0
                  try clear hfz529_1
                  try clear hfz530_0
                  try clear hfz530_1
                  try clear hfz532_0
                  try clear hfz532_1
                  try clear hfz535_0
                  try clear hfz535_1
                  try clear hfz537_0
                  try clear hfz537_1
                  try clear hfz538_0
                  try clear hfz538_1
                  try clear hfz546_0
                  try clear hfz546_1
                  try clear hfz550_0
                  try clear hfz550_1
                  try clear hfz552_0
                  try clear hfz552_1
                  try clear hfz553_0
                  try clear hfz553_1
                  try clear hfz555_0
                  try clear hfz555_1
                  try clear hfz558_0
                  try clear hfz558_1
                  try clear hfz560_0
                  try clear hfz560_1
                  try clear hfz561_0
                  try clear hfz561_1
                  try clear hfz563_0
                  try clear hfz563_1
                  try clear hfz564_0
                  try clear hfz564_1
                  try clear hfz570_0
                  try clear hfz570_1
                  try clear hfz574_0
                  try clear hfz574_1
                  try clear hfz576_0
                  try clear hfz576_1
                  try clear hfz577_0
                  try clear hfz577_1
                  try clear hfz579_0
                  try clear hfz579_1
                  try clear hfz582_0
                  try clear hfz582_1
                  try clear hfz584_0
                  try clear hfz584_1
                  try clear hfz585_0
                  try clear hfz585_1
                  try clear hfz587_0
                  try clear hfz587_1
                  try clear hfz588_0
                  try clear hfz588_1
                  try clear hfz590_0
                  try clear hfz590_1
                  try clear hfz591_0
                  try clear hfz591_1
                  try clear hfz598_0
                  try clear hfz598_1
                  try clear hfz602_0
                  try clear hfz602_1
                  try clear hfz604_0
                  try clear hfz604_1
                  try clear hfz605_0
                  try clear hfz605_1
                  try clear hfz607_0
                  try clear hfz607_1
                  try clear hfz608_0
                  try clear hfz608_1
                  try clear hfz616_0
                  try clear hfz616_1
                  try clear hfz620_0
                  try clear hfz620_1
                  try clear hfz622_0
                  try clear hfz622_1
                  try clear hfz623_0
                  try clear hfz623_1
                  try clear hfz625_0
                  try clear hfz625_1
                  try clear hfz626_0
                  try clear hfz626_1
                  try clear hfz628_0
                  try clear hfz628_1
                  try clear hfz629_0
                  try clear hfz629_1
                  try clear hfz635_0
                  try clear hfz635_1
                  try clear hfz639_0
                  try clear hfz639_1
                  try clear hfz641_0
                  try clear hfz641_1
                  try clear hfz642_0
                  try clear hfz642_1
                  try clear hfz644_0
                  try clear hfz644_1
                  try clear hfz645_0
                  try clear hfz645_1
                  try clear hfz647_0
                  try clear hfz647_1
                  try clear hfz648_0
                  try clear hfz648_1
                  try clear hfz650_0
                  try clear hfz650_1
                  try clear hfz651_0
                  try clear hfz651_1
                  obtain ⟨kq, x115_95, rfl, HA, HJ95, BK140, BK141, BK142, BK147, BK151, HB⟩ := hcut
                  cases kq with
                  | zero => exact absurd HA.out (by simp [dovecotelaw01_StampOrders.j2])
                  | succ kj95 =>
                    have H := HA.out
                    clear HA
                    simp only [dovecotelaw01_StampOrders.j2] at H
                    by_cases c652 : x115_95 = true
                    · subst c652
                      have H1 : (some false) = some r := by rw [if_pos rfl] at H; exact H
                      exact absurd ((Option.some.inj H1).trans hrt.out) (by decide)
                    · replace c652 := Bool.eq_false_iff.mpr c652
                      subst c652
                      have H1 : (if t146 = 0 then ((stamp_Less.f kj95 a0_0 a0_1 t144 t145).bind fun t192 => (if t192 = true then ((stamp_Right.f a1_0 a1_1).bind fun t193 => (if t193 = true then ((stamp_Less.f kj95 a0_0 a0_1 a1_0 a1_1).bind fun t194 => (if t194 = true then ((stamp_Less.f kj95 a1_0 a1_1 t144 t145).bind fun t195 => (some (!t195))) else (some (!false)))) else (some (!false)))) else (some false))) else (some true)) = some r := by rw [if_neg (show ¬ (false = true) by decide)] at H; exact H
                      clear H
                      have H := H1
                      clear H1
                      by_cases c653 : t146 = 0
                      · rw [if_pos c653] at H
                        have c653b0 : (t146 == 0) = true := beq_iff_eq.mpr c653
                        have c653b1 : (t146 != 0) = false := bne_eq_false_iff_eq.mpr c653
                        clear c653
                        replace H := Option.bind_eq_some_iff.mp H
                        obtain ⟨t192, A6540, H⟩ := H
                        replace H : (if t192 = true then ((stamp_Right.f a1_0 a1_1).bind fun t193 => (if t193 = true then ((stamp_Less.f kj95 a0_0 a0_1 a1_0 a1_1).bind fun t194 => (if t194 = true then ((stamp_Less.f kj95 a1_0 a1_1 t144 t145).bind fun t195 => (some (!t195))) else (some (!false)))) else (some (!false)))) else (some false)) = some r := H
                        have A654 := Aside0.mk A6540
                        clear A6540
                        by_cases c655 : t192 = true
                        · subst c655
                          have H1 : ((stamp_Right.f a1_0 a1_1).bind fun t193 => (if t193 = true then ((stamp_Less.f kj95 a0_0 a0_1 a1_0 a1_1).bind fun t194 => (if t194 = true then ((stamp_Less.f kj95 a1_0 a1_1 t144 t145).bind fun t195 => (some (!t195))) else (some (!false)))) else (some (!false)))) = some r := by rw [if_pos rfl] at H; exact H
                          clear H
                          have H := H1
                          clear H1
                          replace H := Option.bind_eq_some_iff.mp H
                          obtain ⟨t193, A6560, H⟩ := H
                          replace H : (if t193 = true then ((stamp_Less.f kj95 a0_0 a0_1 a1_0 a1_1).bind fun t194 => (if t194 = true then ((stamp_Less.f kj95 a1_0 a1_1 t144 t145).bind fun t195 => (some (!t195))) else (some (!false)))) else (some (!false))) = some r := H
                          have A656 := Aside0.mk A6560
                          clear A6560
                          by_cases c657 : t193 = true
                          · subst c657
                            have H1 : ((stamp_Less.f kj95 a0_0 a0_1 a1_0 a1_1).bind fun t194 => (if t194 = true then ((stamp_Less.f kj95 a1_0 a1_1 t144 t145).bind fun t195 => (some (!t195))) else (some (!false)))) = some r := by rw [if_pos rfl] at H; exact H
                            clear H
                            have H := H1
                            clear H1
                            replace H := Option.bind_eq_some_iff.mp H
                            obtain ⟨t194, A6580, H⟩ := H
                            replace H : (if t194 = true then ((stamp_Less.f kj95 a1_0 a1_1 t144 t145).bind fun t195 => (some (!t195))) else (some (!false))) = some r := H
                            have A658 := Aside0.mk A6580
                            clear A6580
                            by_cases c659 : t194 = true
                            · subst c659
                              have H1 : ((stamp_Less.f kj95 a1_0 a1_1 t144 t145).bind fun t195 => (some (!t195))) = some r := by rw [if_pos rfl] at H; exact H
                              clear H
                              have H := H1
                              clear H1
                              replace H := Option.bind_eq_some_iff.mp H
                              obtain ⟨t195, A6600, H⟩ := H
                              replace H : (some (!t195)) = some r := H
                              have A660 := Aside0.mk A6600
                              clear A6600
                              obtain rfl := Option.some.inj H
                              have hnb661 := NB140_141.out
                              have hnc661 := NB141_140.out
                              have hnb662 := NB140_142.out
                              have hnc662 := NB142_140.out
                              have hnb663 := NB140_147.out
                              have hnc663 := NB147_140.out
                              have hnb664 := NB140_151.out
                              have hnc664 := NB151_140.out
                              have hcz665_0 : wc.cell? ⟨gb140, 0, none⟩ = some (.int .u64 a0_0) := (blk_cell BK140.out 0).trans rfl
                              have hcz665_1 : wc.cell? ⟨gb140, 1, none⟩ = some (.int .u32 a0_1) := (blk_cell BK140.out 1).trans rfl
                              have hfz665_0 := blk_frozen BK140.out 0
                              have hfz665_1 := blk_frozen BK140.out 1
                              have hnb666 := NB147_141.out
                              have hnc666 := NB141_147.out
                              have hnb667 := NB147_142.out
                              have hnc667 := NB142_147.out
                              have hnb668 := NB147_151.out
                              have hnc668 := NB151_147.out
                              have hcz669_0 : wc.cell? ⟨gb147, 0, none⟩ = some (.int .u64 t144) := (blk_cell BK147.out 0).trans rfl
                              have hcz669_1 : wc.cell? ⟨gb147, 1, none⟩ = some (.int .u32 t145) := (blk_cell BK147.out 1).trans rfl
                              have hfz669_0 := blk_frozen BK147.out 0
                              have hfz669_1 := blk_frozen BK147.out 1
                              go_wp2_with (first | (go_at_call 11; (with_reducible refine (stamp_Less.calls kj95 a0_0 a0_1 t144 t145 true _ A654.out).mono ?_); rintro e w670 ⟨rfl, hb⟩; have n0_ := Aside0.mk (blk_below (g := gb140) (o := .cells #[.int .u64 a0_0, .int .u32 a0_1] 25 (0, 0)) (by (with_reducible repeat (first | refine blk_drewN ?_ _ | refine blk_drew ?_ | refine blk_alloc ?_ _)); exact BK140.out) hb); have n1_ := Aside0.mk (blk_below (g := gb141) (o := .cells #[.int .u64 a1_0, .int .u32 a1_1] 25 (0, 0)) (by (with_reducible repeat (first | refine blk_drewN ?_ _ | refine blk_drew ?_ | refine blk_alloc ?_ _)); exact BK141.out) hb); have n2_ := Aside0.mk (blk_below (g := gb142) (o := .cells #[.int .u64 a2_0, .int .u32 a2_1] 25 (0, 0)) (by (with_reducible repeat (first | refine blk_drewN ?_ _ | refine blk_drew ?_ | refine blk_alloc ?_ _)); exact BK142.out) hb); have n3_ := Aside0.mk (blk_below (g := gb147) (o := .cells #[.int .u64 t144, .int .u32 t145] 25 (0, 0)) (by (with_reducible repeat (first | refine blk_drewN ?_ _ | refine blk_drew ?_ | refine blk_alloc ?_ _)); exact BK147.out) hb); have n4_ := Aside0.mk (blk_below (g := gb151) (o := .cells #[.int .u64 t148, .int .u32 t149] 25 (0, 0)) (by (with_reducible repeat (first | refine blk_drewN ?_ _ | refine blk_drew ?_ | refine blk_alloc ?_ _)); exact BK151.out) hb); have n5_ := Aside0.mk (below_step (by repeat (first | (with_reducible first | exact HB.out | apply below_alloc | apply pw_below_drewN | apply below_drew1 | refine below_set ?_ GE140.out | refine below_set ?_ GE141.out | refine below_set ?_ GE142.out | refine below_set ?_ GE147.out | refine below_set ?_ GE151.out) | exact HB.out)) hb); clear BK140; clear BK141; clear BK142; clear BK147; clear BK151; clear HB; have BK140 := n0_; have BK141 := n1_; have BK142 := n2_; have BK147 := n3_; have BK151 := n4_; have HB := n5_; clear n0_ n1_ n2_ n3_ n4_ n5_; (try clear hb); (try clear hb2); (try clear hk); (try clear hi); have hnb671 := NB141_142.out; have hnc671 := NB142_141.out; have hnb672 := NB141_151.out; have hnc672 := NB151_141.out; have hcz673_0 : w670.cell? ⟨gb141, 0, none⟩ = some (.int .u64 a1_0) := (blk_cell BK141.out 0).trans rfl; have hcz673_1 : w670.cell? ⟨gb141, 1, none⟩ = some (.int .u32 a1_1) := (blk_cell BK141.out 1).trans rfl; have hfz673_0 := blk_frozen BK141.out 0; have hfz673_1 := blk_frozen BK141.out 1) | (go_at_call 8; (with_reducible refine (stamp_Right.calls a1_0 a1_1 true _ A656.out).mono ?_); rintro e w674 ⟨rfl, hb⟩; have n0_ := Aside0.mk (blk_below (g := gb140) (o := .cells #[.int .u64 a0_0, .int .u32 a0_1] 25 (0, 0)) (by (with_reducible repeat (first | refine blk_drewN ?_ _ | refine blk_drew ?_ | refine blk_alloc ?_ _)); exact BK140.out) hb); have n1_ := Aside0.mk (blk_below (g := gb141) (o := .cells #[.int .u64 a1_0, .int .u32 a1_1] 25 (0, 0)) (by (with_reducible repeat (first | refine blk_drewN ?_ _ | refine blk_drew ?_ | refine blk_alloc ?_ _)); exact BK141.out) hb); have n2_ := Aside0.mk (blk_below (g := gb142) (o := .cells #[.int .u64 a2_0, .int .u32 a2_1] 25 (0, 0)) (by (with_reducible repeat (first | refine blk_drewN ?_ _ | refine blk_drew ?_ | refine blk_alloc ?_ _)); exact BK142.out) hb); have n3_ := Aside0.mk (blk_below (g := gb147) (o := .cells #[.int .u64 t144, .int .u32 t145] 25 (0, 0)) (by (with_reducible repeat (first | refine blk_drewN ?_ _ | refine blk_drew ?_ | refine blk_alloc ?_ _)); exact BK147.out) hb); have n4_ := Aside0.mk (blk_below (g := gb151) (o := .cells #[.int .u64 t148, .int .u32 t149] 25 (0, 0)) (by (with_reducible repeat (first | refine blk_drewN ?_ _ | refine blk_drew ?_ | refine blk_alloc ?_ _)); exact BK151.out) hb); have n5_ := Aside0.mk (below_step (by repeat (first | (with_reducible first | exact HB.out | apply below_alloc | apply pw_below_drewN | apply below_drew1 | refine below_set ?_ GE140.out | refine below_set ?_ GE141.out | refine below_set ?_ GE142.out | refine below_set ?_ GE147.out | refine below_set ?_ GE151.out) | exact HB.out)) hb); clear BK140; clear BK141; clear BK142; clear BK147; clear BK151; clear HB; have BK140 := n0_; have BK141 := n1_; have BK142 := n2_; have BK147 := n3_; have BK151 := n4_; have HB := n5_; clear n0_ n1_ n2_ n3_ n4_ n5_; (try clear hb); (try clear hb2); (try clear hk); (try clear hi); have hcz675_0 : w674.cell? ⟨gb140, 0, none⟩ = some (.int .u64 a0_0) := (blk_cell BK140.out 0).trans rfl; have hcz675_1 : w674.cell? ⟨gb140, 1, none⟩ = some (.int .u32 a0_1) := (blk_cell BK140.out 1).trans rfl; have hfz675_0 := blk_frozen BK140.out 0; have hfz675_1 := blk_frozen BK140.out 1; have hcz676_0 : w674.cell? ⟨gb141, 0, none⟩ = some (.int .u64 a1_0) := (blk_cell BK141.out 0).trans rfl; have hcz676_1 : w674.cell? ⟨gb141, 1, none⟩ = some (.int .u32 a1_1) := (blk_cell BK141.out 1).trans rfl; have hfz676_0 := blk_frozen BK141.out 0; have hfz676_1 := blk_frozen BK141.out 1) | (go_at_call 11; (with_reducible refine (stamp_Less.calls kj95 a0_0 a0_1 a1_0 a1_1 true _ A658.out).mono ?_); rintro e w677 ⟨rfl, hb⟩; have n0_ := Aside0.mk (blk_below (g := gb140) (o := .cells #[.int .u64 a0_0, .int .u32 a0_1] 25 (0, 0)) (by (with_reducible repeat (first | refine blk_drewN ?_ _ | refine blk_drew ?_ | refine blk_alloc ?_ _)); exact BK140.out) hb); have n1_ := Aside0.mk (blk_below (g := gb141) (o := .cells #[.int .u64 a1_0, .int .u32 a1_1] 25 (0, 0)) (by (with_reducible repeat (first | refine blk_drewN ?_ _ | refine blk_drew ?_ | refine blk_alloc ?_ _)); exact BK141.out) hb); have n2_ := Aside0.mk (blk_below (g := gb142) (o := .cells #[.int .u64 a2_0, .int .u32 a2_1] 25 (0, 0)) (by (with_reducible repeat (first | refine blk_drewN ?_ _ | refine blk_drew ?_ | refine blk_alloc ?_ _)); exact BK142.out) hb); have n3_ := Aside0.mk (blk_below (g := gb147) (o := .cells #[.int .u64 t144, .int .u32 t145] 25 (0, 0)) (by (with_reducible repeat (first | refine blk_drewN ?_ _ | refine blk_drew ?_ | refine blk_alloc ?_ _)); exact BK147.out) hb); have n4_ := Aside0.mk (blk_below (g := gb151) (o := .cells #[.int .u64 t148, .int .u32 t149] 25 (0, 0)) (by (with_reducible repeat (first | refine blk_drewN ?_ _ | refine blk_drew ?_ | refine blk_alloc ?_ _)); exact BK151.out) hb); have n5_ := Aside0.mk (below_step (by repeat (first | (with_reducible first | exact HB.out | apply below_alloc | apply pw_below_drewN | apply below_drew1 | refine below_set ?_ GE140.out | refine below_set ?_ GE141.out | refine below_set ?_ GE142.out | refine below_set ?_ GE147.out | refine below_set ?_ GE151.out) | exact HB.out)) hb); clear BK140; clear BK141; clear BK142; clear BK147; clear BK151; clear HB; have BK140 := n0_; have BK141 := n1_; have BK142 := n2_; have BK147 := n3_; have BK151 := n4_; have HB := n5_; clear n0_ n1_ n2_ n3_ n4_ n5_; (try clear hb); (try clear hb2); (try clear hk); (try clear hi); have hcz678_0 : w677.cell? ⟨gb141, 0, none⟩ = some (.int .u64 a1_0) := (blk_cell BK141.out 0).trans rfl; have hcz678_1 : w677.cell? ⟨gb141, 1, none⟩ = some (.int .u32 a1_1) := (blk_cell BK141.out 1).trans rfl; have hfz678_0 := blk_frozen BK141.out 0; have hfz678_1 := blk_frozen BK141.out 1; have hcz679_0 : w677.cell? ⟨gb147, 0, none⟩ = some (.int .u64 t144) := (blk_cell BK147.out 0).trans rfl; have hcz679_1 : w677.cell? ⟨gb147, 1, none⟩ = some (.int .u32 t145) := (blk_cell BK147.out 1).trans rfl; have hfz679_0 := blk_frozen BK147.out 0; have hfz679_1 := blk_frozen BK147.out 1) | (go_at_call 11; (with_reducible refine (stamp_Less.calls kj95 a1_0 a1_1 t144 t145 t195 _ A660.out).mono ?_); rintro e w680 ⟨rfl, hb⟩; have n0_ := Aside0.mk (blk_below (g := gb140) (o := .cells #[.int .u64 a0_0, .int .u32 a0_1] 25 (0, 0)) (by (with_reducible repeat (first | refine blk_drewN ?_ _ | refine blk_drew ?_ | refine blk_alloc ?_ _)); exact BK140.out) hb); have n1_ := Aside0.mk (blk_below (g := gb141) (o := .cells #[.int .u64 a1_0, .int .u32 a1_1] 25 (0, 0)) (by (with_reducible repeat (first | refine blk_drewN ?_ _ | refine blk_drew ?_ | refine blk_alloc ?_ _)); exact BK141.out) hb); have n2_ := Aside0.mk (blk_below (g := gb142) (o := .cells #[.int .u64 a2_0, .int .u32 a2_1] 25 (0, 0)) (by (with_reducible repeat (first | refine blk_drewN ?_ _ | refine blk_drew ?_ | refine blk_alloc ?_ _)); exact BK142.out) hb); have n3_ := Aside0.mk (blk_below (g := gb147) (o := .cells #[.int .u64 t144, .int .u32 t145] 25 (0, 0)) (by (with_reducible repeat (first | refine blk_drewN ?_ _ | refine blk_drew ?_ | refine blk_alloc ?_ _)); exact BK147.out) hb); have n4_ := Aside0.mk (blk_below (g := gb151) (o := .cells #[.int .u64 t148, .int .u32 t149] 25 (0, 0)) (by (with_reducible repeat (first | refine blk_drewN ?_ _ | refine blk_drew ?_ | refine blk_alloc ?_ _)); exact BK151.out) hb); have n5_ := Aside0.mk (below_step (by repeat (first | (with_reducible first | exact HB.out | apply below_alloc | apply pw_below_drewN | apply below_drew1 | refine below_set ?_ GE140.out | refine below_set ?_ GE141.out | refine below_set ?_ GE142.out | refine below_set ?_ GE147.out | refine below_set ?_ GE151.out) | exact HB.out)) hb); clear BK140; clear BK141; clear BK142; clear BK147; clear BK151; clear HB; have BK140 := n0_; have BK141 := n1_; have BK142 := n2_; have BK147 := n3_; have BK151 := n4_; have HB := n5_; clear n0_ n1_ n2_ n3_ n4_ n5_; (try clear hb); (try clear hb2); (try clear hk); (try clear hi)))
                              go_ret
                              exact ⟨by first | rfl | (simp [errW_none, errW_some] <;> rfl) | (simp [*, errW_none, errW_some] <;> rfl), by repeat (first | (with_reducible first | exact HB.out | apply below_alloc | apply pw_below_drewN | apply below_drew1 | refine below_set ?_ GE140.out | refine below_set ?_ GE141.out | refine below_set ?_ GE142.out | refine below_set ?_ GE147.out | refine below_set ?_ GE151.out) | exact HB.out)⟩
                            · replace c659 := Bool.eq_false_iff.mpr c659
                              subst c659
                              have H1 : (some (!false)) = some r := by rw [if_neg (show ¬ (false = true) by decide)] at H; exact H
                              clear H
                              have H := H1
                              clear H1
                              obtain rfl := Option.some.inj H
                              have hnb681 := NB140_141.out
                              have hnc681 := NB141_140.out
                              have hnb682 := NB140_142.out
                              have hnc682 := NB142_140.out
                              have hnb683 := NB140_147.out
                              have hnc683 := NB147_140.out
                              have hnb684 := NB140_151.out
                              have hnc684 := NB151_140.out
                              have hcz685_0 : wc.cell? ⟨gb140, 0, none⟩ = some (.int .u64 a0_0) := (blk_cell BK140.out 0).trans rfl
                              have hcz685_1 : wc.cell? ⟨gb140, 1, none⟩ = some (.int .u32 a0_1) := (blk_cell BK140.out 1).trans rfl
                              have hfz685_0 := blk_frozen BK140.out 0
                              have hfz685_1 := blk_frozen BK140.out 1
                              have hnb686 := NB147_141.out
                              have hnc686 := NB141_147.out
                              have hnb687 := NB147_142.out
                              have hnc687 := NB142_147.out
                              have hnb688 := NB147_151.out
                              have hnc688 := NB151_147.out
                              have hcz689_0 : wc.cell? ⟨gb147, 0, none⟩ = some (.int .u64 t144) := (blk_cell BK147.out 0).trans rfl
                              have hcz689_1 : wc.cell? ⟨gb147, 1, none⟩ = some (.int .u32 t145) := (blk_cell BK147.out 1).trans rfl
                              have hfz689_0 := blk_frozen BK147.out 0
                              have hfz689_1 := blk_frozen BK147.out 1
                              go_wp2_with (first | (go_at_call 11; (with_reducible refine (stamp_Less.calls kj95 a0_0 a0_1 t144 t145 true _ A654.out).mono ?_); rintro e w690 ⟨rfl, hb⟩; have n0_ := Aside0.mk (blk_below (g := gb140) (o := .cells #[.int .u64 a0_0, .int .u32 a0_1] 25 (0, 0)) (by (with_reducible repeat (first | refine blk_drewN ?_ _ | refine blk_drew ?_ | refine blk_alloc ?_ _)); exact BK140.out) hb); have n1_ := Aside0.mk (blk_below (g := gb141) (o := .cells #[.int .u64 a1_0, .int .u32 a1_1] 25 (0, 0)) (by (with_reducible repeat (first | refine blk_drewN ?_ _ | refine blk_drew ?_ | refine blk_alloc ?_ _)); exact BK141.out) hb); have n2_ := Aside0.mk (blk_below (g := gb142) (o := .cells #[.int .u64 a2_0, .int .u32 a2_1] 25 (0, 0)) (by (with_reducible repeat (first | refine blk_drewN ?_ _ | refine blk_drew ?_ | refine blk_alloc ?_ _)); exact BK142.out) hb); have n3_ := Aside0.mk (blk_below (g := gb147) (o := .cells #[.int .u64 t144, .int .u32 t145] 25 (0, 0)) (by (with_reducible repeat (first | refine blk_drewN ?_ _ | refine blk_drew ?_ | refine blk_alloc ?_ _)); exact BK147.out) hb); have n4_ := Aside0.mk (blk_below (g := gb151) (o := .cells #[.int .u64 t148, .int .u32 t149] 25 (0, 0)) (by (with_reducible repeat (first | refine blk_drewN ?_ _ | refine blk_drew ?_ | refine blk_alloc ?_ _)); exact BK151.out) hb); have n5_ := Aside0.mk (below_step (by repeat (first | (with_reducible first | exact HB.out | apply below_alloc | apply pw_below_drewN | apply below_drew1 | refine below_set ?_ GE140.out | refine below_set ?_ GE141.out | refine below_set ?_ GE142.out | refine below_set ?_ GE147.out | refine below_set ?_ GE151.out) | exact HB.out)) hb); clear BK140; clear BK141; clear BK142; clear BK147; clear BK151; clear HB; have BK140 := n0_; have BK141 := n1_; have BK142 := n2_; have BK147 := n3_; have BK151 := n4_; have HB := n5_; clear n0_ n1_ n2_ n3_ n4_ n5_; (try clear hb); (try clear hb2); (try clear hk); (try clear hi); have hnb691 := NB141_142.out; have hnc691 := NB142_141.out; have hnb692 := NB141_151.out; have hnc692 := NB151_141.out; have hcz693_0 : w690.cell? ⟨gb141, 0, none⟩ = some (.int .u64 a1_0) := (blk_cell BK141.out 0).trans rfl; have hcz693_1 : w690.cell? ⟨gb141, 1, none⟩ = some (.int .u32 a1_1) := (blk_cell BK141.out 1).trans rfl; have hfz693_0 := blk_frozen BK141.out 0; have hfz693_1 := blk_frozen BK141.out 1) | (go_at_call 8; (with_reducible refine (stamp_Right.calls a1_0 a1_1 true _ A656.out).mono ?_); rintro e w694 ⟨rfl, hb⟩; have n0_ := Aside0.mk (blk_below (g := gb140) (o := .cells #[.int .u64 a0_0, .int .u32 a0_1] 25 (0, 0)) (by (with_reducible repeat (first | refine blk_drewN ?_ _ | refine blk_drew ?_ | refine blk_alloc ?_ _)); exact BK140.out) hb); have n1_ := Aside0.mk (blk_below (g := gb141) (o := .cells #[.int .u64 a1_0, .int .u32 a1_1] 25 (0, 0)) (by (with_reducible repeat (first | refine blk_drewN ?_ _ | refine blk_drew ?_ | refine blk_alloc ?_ _)); exact BK141.out) hb); have n2_ := Aside0.mk (blk_below (g := gb142) (o := .cells #[.int .u64 a2_0, .int .u32 a2_1] 25 (0, 0)) (by (with_reducible repeat (first | refine blk_drewN ?_ _ | refine blk_drew ?_ | refine blk_alloc ?_ _)); exact BK142.out) hb); have n3_ := Aside0.mk (blk_below (g := gb147) (o := .cells #[.int .u64 t144, .int .u32 t145] 25 (0, 0)) (by (with_reducible repeat (first | refine blk_drewN ?_ _ | refine blk_drew ?_ | refine blk_alloc ?_ _)); exact BK147.out) hb); have n4_ := Aside0.mk (blk_below (g := gb151) (o := .cells #[.int .u64 t148, .int .u32 t149] 25 (0, 0)) (by (with_reducible repeat (first | refine blk_drewN ?_ _ | refine blk_drew ?_ | refine blk_alloc ?_ _)); exact BK151.out) hb); have n5_ := Aside0.mk (below_step (by repeat (first | (with_reducible first | exact HB.out | apply below_alloc | apply pw_below_drewN | apply below_drew1 | refine below_set ?_ GE140.out | refine below_set ?_ GE141.out | refine below_set ?_ GE142.out | refine below_set ?_ GE147.out | refine below_set ?_ GE151.out) | exact HB.out)) hb); clear BK140; clear BK141; clear BK142; clear BK147; clear BK151; clear HB; have BK140 := n0_; have BK141 := n1_; have BK142 := n2_; have BK147 := n3_; have BK151 := n4_; have HB := n5_; clear n0_ n1_ n2_ n3_ n4_ n5_; (try clear hb); (try clear hb2); (try clear hk); (try clear hi); have hcz695_0 : w694.cell? ⟨gb140, 0, none⟩ = some (.int .u64 a0_0) := (blk_cell BK140.out 0).trans rfl; have hcz695_1 : w694.cell? ⟨gb140, 1, none⟩ = some (.int .u32 a0_1) := (blk_cell BK140.out 1).trans rfl; have hfz695_0 := blk_frozen BK140.out 0; have hfz695_1 := blk_frozen BK140.out 1; have hcz696_0 : w694.cell? ⟨gb141, 0, none⟩ = some (.int .u64 a1_0) := (blk_cell BK141.out 0).trans rfl; have hcz696_1 : w694.cell? ⟨gb141, 1, none⟩ = some (.int .u32 a1_1) := (blk_cell BK141.out 1).trans rfl; have hfz696_0 := blk_frozen BK141.out 0; have hfz696_1 := blk_frozen BK141.out 1) | (go_at_call 11; (with_reducible refine (stamp_Less.calls kj95 a0_0 a0_1 a1_0 a1_1 false _ A658.out).mono ?_); rintro e w697 ⟨rfl, hb⟩; have n0_ := Aside0.mk (blk_below (g := gb140) (o := .cells #[.int .u64 a0_0, .int .u32 a0_1] 25 (0, 0)) (by (with_reducible repeat (first | refine blk_drewN ?_ _ | refine blk_drew ?_ | refine blk_alloc ?_ _)); exact BK140.out) hb); have n1_ := Aside0.mk (blk_below (g := gb141) (o := .cells #[.int .u64 a1_0, .int .u32 a1_1] 25 (0, 0)) (by (with_reducible repeat (first | refine blk_drewN ?_ _ | refine blk_drew ?_ | refine blk_alloc ?_ _)); exact BK141.out) hb); have n2_ := Aside0.mk (blk_below (g := gb142) (o := .cells #[.int .u64 a2_0, .int .u32 a2_1] 25 (0, 0)) (by (with_reducible repeat (first | refine blk_drewN ?_ _ | refine blk_drew ?_ | refine blk_alloc ?_ _)); exact BK142.out) hb); have n3_ := Aside0.mk (blk_below (g := gb147) (o := .cells #[.int .u64 t144, .int .u32 t145] 25 (0, 0)) (by (with_reducible repeat (first | refine blk_drewN ?_ _ | refine blk_drew ?_ | refine blk_alloc ?_ _)); exact BK147.out) hb); have n4_ := Aside0.mk (blk_below (g := gb151) (o := .cells #[.int .u64 t148, .int .u32 t149] 25 (0, 0)) (by (with_reducible repeat (first | refine blk_drewN ?_ _ | refine blk_drew ?_ | refine blk_alloc ?_ _)); exact BK151.out) hb); have n5_ := Aside0.mk (below_step (by repeat (first | (with_reducible first | exact HB.out | apply below_alloc | apply pw_below_drewN | apply below_drew1 | refine below_set ?_ GE140.out | refine below_set ?_ GE141.out | refine below_set ?_ GE142.out | refine below_set ?_ GE147.out | refine below_set ?_ GE151.out) | exact HB.out)) hb); clear BK140; clear BK141; clear BK142; clear BK147; clear BK151; clear HB; have BK140 := n0_; have BK141 := n1_; have BK142 := n2_; have BK147 := n3_; have BK151 := n4_; have HB := n5_; clear n0_ n1_ n2_ n3_ n4_ n5_; (try clear hb); (try clear hb2); (try clear hk); (try clear hi)))
                              go_ret
                              exact ⟨by first | rfl | (simp [errW_none, errW_some] <;> rfl) | (simp [*, errW_none, errW_some] <;> rfl), by repeat (first | (with_reducible first | exact HB.out | apply below_alloc | apply pw_below_drewN | apply below_drew1 | refine below_set ?_ GE140.out | refine below_set ?_ GE141.out | refine below_set ?_ GE142.out | refine below_set ?_ GE147.out | refine below_set ?_ GE151.out) | exact HB.out)⟩
                          · replace c657 := Bool.eq_false_iff.mpr c657
                            subst c657
                            have H1 : (some (!false)) = some r := by rw [if_neg (show ¬ (false = true) by decide)] at H; exact H
                            clear H
                            have H := H1
                            clear H1
                            obtain rfl := Option.some.inj H
                            have hnb698 := NB140_141.out
                            have hnc698 := NB141_140.out
                            have hnb699 := NB140_142.out
                            have hnc699 := NB142_140.out
                            have hnb700 := NB140_147.out
                            have hnc700 := NB147_140.out
                            have hnb701 := NB140_151.out
                            have hnc701 := NB151_140.out
                            have hcz702_0 : wc.cell? ⟨gb140, 0, none⟩ = some (.int .u64 a0_0) := (blk_cell BK140.out 0).trans rfl
                            have hcz702_1 : wc.cell? ⟨gb140, 1, none⟩ = some (.int .u32 a0_1) := (blk_cell BK140.out 1).trans rfl
                            have hfz702_0 := blk_frozen BK140.out 0
                            have hfz702_1 := blk_frozen BK140.out 1
                            have hnb703 := NB147_141.out
                            have hnc703 := NB141_147.out
                            have hnb704 := NB147_142.out
                            have hnc704 := NB142_147.out
                            have hnb705 := NB147_151.out
                            have hnc705 := NB151_147.out
                            have hcz706_0 : wc.cell? ⟨gb147, 0, none⟩ = some (.int .u64 t144) := (blk_cell BK147.out 0).trans rfl
                            have hcz706_1 : wc.cell? ⟨gb147, 1, none⟩ = some (.int .u32 t145) := (blk_cell BK147.out 1).trans rfl
                            have hfz706_0 := blk_frozen BK147.out 0
                            have hfz706_1 := blk_frozen BK147.out 1
                            go_wp2_with (first | (go_at_call 11; (with_reducible refine (stamp_Less.calls kj95 a0_0 a0_1 t144 t145 true _ A654.out).mono ?_); rintro e w707 ⟨rfl, hb⟩; have n0_ := Aside0.mk (blk_below (g := gb140) (o := .cells #[.int .u64 a0_0, .int .u32 a0_1] 25 (0, 0)) (by (with_reducible repeat (first | refine blk_drewN ?_ _ | refine blk_drew ?_ | refine blk_alloc ?_ _)); exact BK140.out) hb); have n1_ := Aside0.mk (blk_below (g := gb141) (o := .cells #[.int .u64 a1_0, .int .u32 a1_1] 25 (0, 0)) (by (with_reducible repeat (first | refine blk_drewN ?_ _ | refine blk_drew ?_ | refine blk_alloc ?_ _)); exact BK141.out) hb); have n2_ := Aside0.mk (blk_below (g := gb142) (o := .cells #[.int .u64 a2_0, .int .u32 a2_1] 25 (0, 0)) (by (with_reducible repeat (first | refine blk_drewN ?_ _ | refine blk_drew ?_ | refine blk_alloc ?_ _)); exact BK142.out) hb); have n3_ := Aside0.mk (blk_below (g := gb147) (o := .cells #[.int .u64 t144, .int .u32 t145] 25 (0, 0)) (by (with_reducible repeat (first | refine blk_drewN ?_ _ | refine blk_drew ?_ | refine blk_alloc ?_ _)); exact BK147.out) hb); have n4_ := Aside0.mk (blk_below (g := gb151) (o := .cells #[.int .u64 t148, .int .u32 t149] 25 (0, 0)) (by (with_reducible repeat (first | refine blk_drewN ?_ _ | refine blk_drew ?_ | refine blk_alloc ?_ _)); exact BK151.out) hb); have n5_ := Aside0.mk (below_step (by repeat (first | (with_reducible first | exact HB.out | apply below_alloc | apply pw_below_drewN | apply below_drew1 | refine below_set ?_ GE140.out | refine below_set ?_ GE141.out | refine below_set ?_ GE142.out | refine below_set ?_ GE147.out | refine below_set ?_ GE151.out) | exact HB.out)) hb); clear BK140; clear BK141; clear BK142; clear BK147; clear BK151; clear HB; have BK140 := n0_; have BK141 := n1_; have BK142 := n2_; have BK147 := n3_; have BK151 := n4_; have HB := n5_; clear n0_ n1_ n2_ n3_ n4_ n5_; (try clear hb); (try clear hb2); (try clear hk); (try clear hi); have hnb708 := NB141_142.out; have hnc708 := NB142_141.out; have hnb709 := NB141_151.out; have hnc709 := NB151_141.out; have hcz710_0 : w707.cell? ⟨gb141, 0, none⟩ = some (.int .u64 a1_0) := (blk_cell BK141.out 0).trans rfl; have hcz710_1 : w707.cell? ⟨gb141, 1, none⟩ = some (.int .u32 a1_1) := (blk_cell BK141.out 1).trans rfl; have hfz710_0 := blk_frozen BK141.out 0; have hfz710_1 := blk_frozen BK141.out 1) | (go_at_call 8; (with_reducible refine (stamp_Right.calls a1_0 a1_1 false _ A656.out).mono ?_); rintro e w711 ⟨rfl, hb⟩; have n0_ := Aside0.mk (blk_below (g := gb140) (o := .cells #[.int .u64 a0_0, .int .u32 a0_1] 25 (0, 0)) (by (with_reducible repeat (first | refine blk_drewN ?_ _ | refine blk_drew ?_ | refine blk_alloc ?_ _)); exact BK140.out) hb); have n1_ := Aside0.mk (blk_below (g := gb141) (o := .cells #[.int .u64 a1_0, .int .u32 a1_1] 25 (0, 0)) (by (with_reducible repeat (first | refine blk_drewN ?_ _ | refine blk_drew ?_ | refine blk_alloc ?_ _)); exact BK141.out) hb); have n2_ := Aside0.mk (blk_below (g := gb142) (o := .cells #[.int .u64 a2_0, .int .u32 a2_1] 25 (0, 0)) (by (with_reducible repeat (first | refine blk_drewN ?_ _ | refine blk_drew ?_ | refine blk_alloc ?_ _)); exact BK142.out) hb); have n3_ := Aside0.mk (blk_below (g := gb147) (o := .cells #[.int .u64 t144, .int .u32 t145] 25 (0, 0)) (by (with_reducible repeat (first | refine blk_drewN ?_ _ | refine blk_drew ?_ | refine blk_alloc ?_ _)); exact BK147.out) hb); have n4_ := Aside0.mk (blk_below (g := gb151) (o := .cells #[.int .u64 t148, .int .u32 t149] 25 (0, 0)) (by (with_reducible repeat (first | refine blk_drewN ?_ _ | refine blk_drew ?_ | refine blk_alloc ?_ _)); exact BK151.out) hb); have n5_ := Aside0.mk (below_step (by repeat (first | (with_reducible first | exact HB.out | apply below_alloc | apply pw_below_drewN | apply below_drew1 | refine below_set ?_ GE140.out | refine below_set ?_ GE141.out | refine below_set ?_ GE142.out | refine below_set ?_ GE147.out | refine below_set ?_ GE151.out) | exact HB.out)) hb); clear BK140; clear BK141; clear BK142; clear BK147; clear BK151; clear HB; have BK140 := n0_; have BK141 := n1_; have BK142 := n2_; have BK147 := n3_; have BK151 := n4_; have HB := n5_; clear n0_ n1_ n2_ n3_ n4_ n5_; (try clear hb); (try clear hb2); (try clear hk); (try clear hi)))
                            go_ret
                            exact ⟨by first | rfl | (simp [errW_none, errW_some] <;> rfl) | (simp [*, errW_none, errW_some] <;> rfl), by repeat (first | (with_reducible first | exact HB.out | apply below_alloc | apply pw_below_drewN | apply below_drew1 | refine below_set ?_ GE140.out | refine below_set ?_ GE141.out | refine below_set ?_ GE142.out | refine below_set ?_ GE147.out | refine below_set ?_ GE151.out) | exact HB.out)⟩
                        · replace c655 := Bool.eq_false_iff.mpr c655
                          subst c655
                          have H1 : (some false) = some r := by rw [if_neg (show ¬ (false = true) by decide)] at H; exact H
                          exact absurd ((Option.some.inj H1).trans hrt.out) (by decide)
                      · rw [if_neg c653] at H
                        have c653b0 : (t146 == 0) = false := beq_eq_false_iff_ne.mpr c653
                        have c653b1 : (t146 != 0) = true := bne_iff_ne.mpr c653
                        obtain rfl := Option.some.inj H
                        go_wp2
                        go_ret
                        exact ⟨by first | rfl | (simp [errW_none, errW_some] <;> rfl) | (simp [*, errW_none, errW_some] <;> rfl), by repeat (first | (with_reducible first | exact HB.out | apply below_alloc | apply pw_below_drewN | apply below_drew1 | refine below_set ?_ GE140.out | refine below_set ?_ GE141.out | refine below_set ?_ GE142.out | refine below_set ?_ GE147.out | refine below_set ?_ GE151.out) | exact HB.out)⟩
  · replace c5 := Bool.eq_false_iff.mpr c5
    subst c5
    have H1 : (some false) = some r := by rw [if_neg (show ¬ (false = true) by decide)] at H; exact H
    exact absurd ((Option.some.inj H1).trans hrt.out) (by decide)
end Go.Proofs.YthfaacheolhjnaaDoor.MStampOrders
