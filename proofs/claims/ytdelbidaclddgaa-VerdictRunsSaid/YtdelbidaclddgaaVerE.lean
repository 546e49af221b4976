/- The layer 'verdict': VerE; a seat's own text, no law of its own. -/
import Derived.Test.YtdelbidaclddgaaVerD
import Derived.Deep.LoopGhost
import Derived.Deep.Cut
import Derived.Lib.Hide
import Derived.StillTailTactics
import Derived.Deep.QuietTactic
import Derived.BigQuiet
import Derived.Outline
import Derived.Deep.RegionWith
import Derived.Deep.RegionHeld3
import Derived.WalkLawsBesides
namespace Go.Proofs.Ytdelbidaclddgaa.Ver
open Go.RowKit Go.Proofs.YtdelbidaclddgaaW.PrintWords Go.Proofs.Ytdelbidaclddgaa.MVerdictRuns Go.Proofs.YtdelbidaclddgaaW.PrintLast
set_option linter.unusedVariables false
set_option linter.unusedSimpArgs false
/-! slices.Contains over names; the closure of Retire -/
def hasB (l : List S32) (c n : Int) : Bool := l.any fun x => c == x.f0 && (n == x.f1)
theorem idx_some (l : List S32) (c n : Int) (hl : l.length ≤ 4611686018427387904) : ∀ (d j : Nat), j + d = l.length → ∃ r, api_Txn_76.l0 (d + 1) l (l.length : Int) (j : Int) c n = some r ∧ decide (r ≥ 0) = hasB (l.drop j) c n
  | 0, j, h => by
    refine ⟨-1, ?_, ?_⟩
    · unfold api_Txn_76.l0
      rw [if_neg (by omega)]
    · rw [show l.drop j = [] from List.drop_eq_nil_of_le (by omega)]
      rfl
  | d + 1, j, h => by
    have hj : j < l.length := by omega
    have hrd : rd_T32 l (j : Int) = l[j] := by
      unfold rd_T32
      rw [show ((j : Int)).toNat = j from by omega]
      exact (List.getElem_eq_getD _).symm
    have hw : wrap64 ((j : Int) + 1) = ((j + 1 : Nat) : Int) := by unfold wrap64; omega
    obtain ⟨r, h1, h2⟩ := idx_some l c n hl d (j + 1) (by omega)
    rw [List.drop_eq_getElem_cons hj]
    unfold api_Txn_76.l0
    rw [if_pos (by omega), if_pos (by omega), if_pos (by omega), hrd, hw]
    by_cases hc : (c == (l[j]).f0 && (n == (l[j]).f1)) = true
    · rw [if_pos hc]
      refine ⟨_, rfl, ?_⟩
      rw [decide_eq_true (by omega)]
      unfold hasB
      rw [List.any_cons, hc]
      rfl
    · rw [if_neg hc]
      refine ⟨r, h1, ?_⟩
      rw [h2]
      unfold hasB
      rw [List.any_cons, Bool.eq_false_iff.2 hc]
      rfl
theorem has_calls (A : Option Addr) (k : Nat) (l : List S32) (c n : Int) (w : World) (hr : Kd.C k32 w A l.length l) (hk : l.length ≤ k) (hl : l.length ≤ 4611686018427387904) :
    Calls Try.prog 50 #[.slice A l.length k, .agg #[.int .u32 c, .int .u32 n]] w fun e w' => e = .returned (.bool (hasB l c n)) ∧ Mod w w' [] := by
  obtain ⟨r, h1, h2⟩ := idx_some l c n hl l.length 0 (by omega)
  have h : api_Txn_50.f (l.length + 1) l c n = some (hasB l c n) := by
    unfold api_Txn_50.f api_Txn_76.f
    rw [show (0 : Int) = ((0 : Nat) : Int) from rfl, h1, Option.bind_some]
    show some (decide (r ≥ 0)) = _
    rw [h2]
    rfl
  exact (api_Txn_50.calls _ A k l c n _ w hr hk h).mono fun e w' ⟨h1, h2⟩ => ⟨h1, Mod.of_below h2⟩
def lessB (a b c d : Int) : Bool := decide (a < c ∨ a = c ∧ b < d)
theorem lv_or (k : Nat) (hk : 3 ≤ k) (x y : Int) : cmp_Or_int.f k [x, y] = some (if x = 0 then y else x) := by
  obtain ⟨k, rfl⟩ : ∃ m, k = m + 3 := ⟨k - 3, by omega⟩
  have wrap_one : ∀ {i n : Int}, 0 ≤ i → i < n → n ≤ 9223372036854775807 → wrap64 (i + 1) = i + 1 := fun h0 h1 hn => by unfold wrap64; omega
  have w1 : wrap64 (0 + 1) = 1 := by rw [wrap_one (n := 10) (by omega) (by omega) (by omega)]; rfl
  have w2 : wrap64 (1 + 1) = 2 := by rw [wrap_one (n := 10) (by omega) (by omega) (by omega)]; rfl
  have r0 : rd [x, y] 0 = x := rfl
  have r1 : rd [x, y] 1 = y := rfl
  have hl : (([x, y] : List Int).length : Int) = 2 := rfl
  unfold cmp_Or_int.f
  rw [hl]
  unfold cmp_Or_int.l0
  rw [if_pos (by omega), if_pos (by omega), hl, if_pos (by omega), r0, w1]
  by_cases h : x = 0
  · rw [if_pos h, if_pos h]
    unfold cmp_Or_int.l0
    rw [if_pos (by omega), if_pos (by omega), hl, if_pos (by omega), r1, w2]
    by_cases h' : y = 0
    · rw [if_pos h']
      unfold cmp_Or_int.l0
      rw [if_neg (by omega), h']
    · rw [if_neg h']
  · rw [if_neg h, if_neg h]
theorem lv_64 (a b : Int) : cmp_Compare_uint64.f a b = some (if a < b then -1 else if b < a then 1 else 0) := by
  unfold cmp_Compare_uint64.f cmp_isNaN_uint64.f
  simp only [bne_self_eq_false, Option.bind_some, Bool.false_eq_true, if_false]
  by_cases h : a < b
  · rw [if_pos h, if_pos h]
  · rw [if_neg h, if_neg h]
    by_cases h' : b < a
    · rw [if_pos h', if_pos h']
    · rw [if_neg h', if_neg h']
theorem lv_32 (a b : Int) : cmp_Compare_uint32.f a b = some (if a < b then -1 else if b < a then 1 else 0) := by
  unfold cmp_Compare_uint32.f cmp_isNaN_uint32.f
  simp only [bne_self_eq_false, Option.bind_some, Bool.false_eq_true, if_false]
  by_cases h : a < b
  · rw [if_pos h, if_pos h]
  · rw [if_neg h, if_neg h]
    by_cases h' : b < a
    · rw [if_pos h', if_pos h']
    · rw [if_neg h', if_neg h']
theorem lv_less (a b c d : Int) : stamp_Less.f 3 a b c d = some (lessB a b c d) := by
  unfold stamp_Less.f lessB
  rw [lv_64, Option.bind_some, lv_32, Option.bind_some, lv_or 3 (by omega), Option.bind_some]
  congr 1
  rw [decide_eq_decide]
  split <;> split <;> (try split) <;> (try split) <;> omega
theorem less_calls (a b c d : Int) (w : World) : Calls Try.prog 49 #[.agg #[.int .u64 a, .int .u32 b], .agg #[.int .u64 c, .int .u32 d]] w fun e w' => e = .returned (.bool (lessB a b c d)) ∧ Mod w w' [] :=
  (stamp_Less.calls 3 a b c d _ w (lv_less a b c d)).mono fun e w' ⟨h1, h2⟩ => ⟨h1, Mod.of_below h2⟩
/-- which verdicts go -/
def diesB (s : S35) (keep : List S32) (v : S37) : Bool := lessB v.f1.f0 v.f1.f1 s.f0 s.f1 && (v.f4 || !commB v) && !hasB keep v.f0.f0 v.f0.f1
/-- the safe stamp and the kept names in the boxes that the closure has captured -/
structure Caps (W : World) (gs gk : Nat) (s : S35) (A : Option Addr) (k : Nat) (keep : List S32) : Prop where
  hs : W.heap[gs]? = some (.cells #[.int .u64 s.f0, .int .u32 s.f1] 35 (0, 0))
  hk : W.heap[gk]? = some (.cells #[.slice A keep.length k] 38 (0, 0))
  hr : Kd.C k32 W A keep.length keep
  hc : keep.length ≤ k
  hl : keep.length ≤ 4611686018427387904
theorem Kd_C_mod {W W' : World} {A : Option Addr} {n : Nat} {l : List S32} (h : Kd.C k32 W A n l) (m : Mod W W' []) : Kd.C k32 W' A n l := Kd.C_below h m.bel
theorem Caps.mod {W W' : World} {gs gk : Nat} {s : S35} {A : Option Addr} {k : Nat} {keep : List S32} (h : Caps W gs gk s A k keep) (m : Mod W W' []) : Caps W' gs gk s A k keep :=
  ⟨m.at_ h.hs (by simp), m.at_ h.hk (by simp), Kd_C_mod h.hr m, h.hc, h.hl⟩
/-- the closure's boxes -/
def Cl (W : World) (gs gk : Nat) (s : S35) (A : Option Addr) (k : Nat) (keep : List S32) (g : Nat) (v : S37) (V : World) : Prop :=
  Caps V gs gk s A k keep ∧ V.heap[g]? = some (.cells #[.int .u32 v.f0.f0, .int .u32 v.f0.f1] 32 (0, 0)) ∧ BV V (g + 1) v ∧ Mod W V []
theorem Cl.step {W V V' : World} {gs gk : Nat} {s : S35} {A : Option Addr} {k : Nat} {keep : List S32} {g : Nat} {v : S37} (h : Cl W gs gk s A k keep g v V) (m : Mod V V' []) : Hid (Cl W gs gk s A k keep g v V') :=
  Lib.hid ⟨h.1.mod m, m.at_ h.2.1 (by simp), h.2.2.1.mod m (by simp), h.2.2.2.trans m (fun _ hk => by cases hk)⟩
theorem Cl.all {W V : World} {gs gk : Nat} {s : S35} {A : Option Addr} {k : Nat} {keep : List S32} {g : Nat} {v : S37} (h : Cl W gs gk s A k keep g v V) :
    V.cell? ⟨gs, 0, none⟩ = some (.int .u64 s.f0) ∧ V.cell? ⟨gs, 1, none⟩ = some (.int .u32 s.f1) ∧ V.cell? ⟨gk, 0, none⟩ = some (.slice A keep.length k) ∧ V.cell? ⟨g, 0, none⟩ = some (.int .u32 v.f0.f0) ∧ V.cell? ⟨g, 1, none⟩ = some (.int .u32 v.f0.f1) ∧
    V.cell? ⟨g + 1, 0, none⟩ = some (.int .u32 v.f0.f0) ∧ V.cell? ⟨g + 1, 1, none⟩ = some (.int .u32 v.f0.f1) ∧ V.cell? ⟨g + 1, 2, none⟩ = some (.int .u64 v.f1.f0) ∧ V.cell? ⟨g + 1, 3, none⟩ = some (.int .u32 v.f1.f1) ∧
    V.cell? ⟨g + 1, 4, none⟩ = some (.int .u64 v.f2.f0) ∧ V.cell? ⟨g + 1, 5, none⟩ = some (.int .u32 v.f2.f1) ∧ V.cell? ⟨g + 1, 6, none⟩ = some (.int .u8 v.f3) ∧ V.cell? ⟨g + 1, 7, none⟩ = some (.bool v.f4) :=
  ⟨(blk_cell h.1.hs 0).trans rfl, (blk_cell h.1.hs 1).trans rfl, (blk_cell h.1.hk 0).trans rfl, (blk_cell h.2.1 0).trans rfl, (blk_cell h.2.1 1).trans rfl, h.2.2.1.all⟩
set_option maxHeartbeats 4000000 in
set_option maxRecDepth 100000 in
theorem clo_calls {W : World} {gs gk : Nat} {s : S35} {A : Option Addr} {k : Nat} {keep : List S32} (h : Caps W gs gk s A k keep) (v : S37)  :
    Calls Try.prog 48 (#[keyV v.f0.f0 v.f0.f1, encV v] ++ #[.pointer (some ⟨gs, 0, none⟩), .pointer (some ⟨gk, 0, none⟩)]) W fun e W' => e = .returned (.bool (diesB s keep v)) ∧ Mod W W' [] := by
  have K4 := blk_new W (.cells #[.int .u32 v.f0.f0, .int .u32 v.f0.f1] 32)
  have M4 := (Mod.refl W []).alloc (.cells #[.int .u32 v.f0.f0, .int .u32 v.f0.f1] 32)
  have B5 : BV ((W.alloc (.cells #[.int .u32 v.f0.f0, .int .u32 v.f0.f1] 32)).alloc (.cells #[.int .u32 v.f0.f0, .int .u32 v.f0.f1, .int .u64 v.f1.f0, .int .u32 v.f1.f1, .int .u64 v.f2.f0, .int .u32 v.f2.f1, .int .u8 v.f3, .bool v.f4] 37)) (W.alloc (.cells #[.int .u32 v.f0.f0, .int .u32 v.f0.f1] 32)).heap.size v := blk_new _ _
  have M5 := (Mod.refl (W.alloc (.cells #[.int .u32 v.f0.f0, .int .u32 v.f0.f1] 32)) []).alloc (.cells #[.int .u32 v.f0.f0, .int .u32 v.f0.f1, .int .u64 v.f1.f0, .int .u32 v.f1.f1, .int .u64 v.f2.f0, .int .u32 v.f2.f1, .int .u8 v.f3, .bool v.f4] 37)
  have hs : (W.alloc (.cells #[.int .u32 v.f0.f0, .int .u32 v.f0.f1] 32)).heap.size = W.heap.size + 1 := by simp
  rw [hs] at B5
  have hcm : ∀ (w : World) (x : Bool), Calls Try.prog 43 #[.agg #[.int .u32 v.f0.f0, .int .u32 v.f0.f1, .int .u64 v.f1.f0, .int .u32 v.f1.f1, .int .u64 v.f2.f0, .int .u32 v.f2.f1, .int .u8 v.f3, .bool x]] w fun e w' => e = .returned (.bool (commB v)) ∧ Mod w w' [] := fun w x => comm_calls { v with f4 := x } w
  unfold keyV encV
  go_enter Try.func48, Try.ntmps48
  go_upto_region 1 with fail
  generalize W.alloc (.cells #[.int .u32 v.f0.f0, .int .u32 v.f0.f1] 32) = W4 at *
  generalize W4.alloc (.cells #[.int .u32 v.f0.f0, .int .u32 v.f0.f1, .int .u64 v.f1.f0, .int .u32 v.f1.f1, .int .u64 v.f2.f0, .int .u32 v.f2.f1, .int .u8 v.f3, .bool v.f4] 37) = W5 at *
  generalize hg : W.heap.size = g at *
  have H0 : Hid (Cl W gs gk s A k keep g v W5) := Lib.hid ⟨h.mod (M4.trans M5 (fun _ hk => by cases hk)), M5.at_ K4 (by simp), B5, M4.trans M5 (fun _ hk => by cases hk)⟩
  clear h K4 M4 B5 M5 hs
  obtain ⟨s0, s1, k0, q0, q1, c0, c1, c2, c3, c4, c5, c6, c7⟩ := H0.out.all
  go_wp2_with (first
    | (go_at_call 49; have K0 := H0; clear H0; refine (less_calls _ _ _ _ _).mono ?_; rintro e V1 ⟨rfl, m1⟩; have H1 := K0.out.step m1; obtain ⟨s0, s1, k0, q0, q1, c0, c1, c2, c3, c4, c5, c6, c7⟩ := H1.out.all; clear K0 m1)
    | (go_at_call 43; have K1 := H1; clear H1; refine (hcm _ _).mono ?_; rintro e V2 ⟨rfl, m2⟩; have H2 := K1.out.step m2; obtain ⟨s0, s1, k0, q0, q1, c0, c1, c2, c3, c4, c5, c6, c7⟩ := H2.out.all; clear K1 m2)
    | (go_at_call 50; have K2 := H2; clear H2; refine (has_calls A k keep _ _ _ K2.out.1.hr K2.out.1.hc K2.out.1.hl).mono ?_; rintro e V3 ⟨rfl, m3⟩; have H3 := K2.out.step m3; obtain ⟨s0, s1, k0, q0, q1, c0, c1, c2, c3, c4, c5, c6, c7⟩ := H3.out.all; clear K2 m3)
    | (go_at_call 50; have K1 := H1; clear H1; refine (has_calls A k keep _ _ _ K1.out.1.hr K1.out.1.hc K1.out.1.hl).mono ?_; rintro e V3 ⟨rfl, m3⟩; have H3 := K1.out.step m3; obtain ⟨s0, s1, k0, q0, q1, c0, c1, c2, c3, c4, c5, c6, c7⟩ := H3.out.all; clear K1 m3))
  all_goals (go_ret; exact ⟨by simp [diesB, *], by first | exact H3.out.2.2.2 | exact H2.out.2.2.2 | exact H1.out.2.2.2⟩)
end Go.Proofs.Ytdelbidaclddgaa.Ver
