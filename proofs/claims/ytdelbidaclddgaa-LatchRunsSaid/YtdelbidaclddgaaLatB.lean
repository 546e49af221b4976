/- The layer 'latch': LatB; a seat's own text, no law of its own. -/
import Derived.Test.YtdelbidaclddgaaLatA
import Derived.Deep.LoopGhost
import Derived.Deep.Cut
import Derived.Lib.Hide
import Derived.StillTailTactics
import Derived.Deep.QuietTactic
import Derived.BigQuiet
import Derived.Outline
import Derived.Deep.RegionWith
import Derived.Deep.RegionHeld3
import Derived.WalkLawsBesides
namespace Go.Proofs.Ytdelbidaclddgaa.Lat
open Go.RowKit Go.Proofs.YtdelbidaclddgaaW.PrintWords Go.Proofs.Ytdelbidaclddgaa.MLatchRuns Go.Proofs.YtdelbidaclddgaaW.PrintLast
set_option linter.unusedVariables false
set_option linter.unusedSimpArgs false
/-! small functions -/
def hasB (l : List S32) (c n : Int) : Bool := l.any fun x => c == x.f0 && (n == x.f1)
theorem idx_some (l : List S32) (c n : Int) (hl : l.length ≤ 4611686018427387904) : ∀ (d j : Nat), j + d = l.length → ∃ r, api_Txn_76.l0 (d + 1) l (l.length : Int) (j : Int) c n = some r ∧ decide (r ≥ 0) = hasB (l.drop j) c n
  | 0, j, h => by
    refine ⟨-1, ?_, ?_⟩
    · unfold api_Txn_76.l0
      rw [if_neg (by omega)]
    · rw [show l.drop j = [] from List.drop_eq_nil_of_le (by omega)]
      rfl
  | d + 1, j, h => by
    have hj : j < l.length := by omega
    have hrd : rd_T32 l (j : Int) = l[j] := by
      unfold rd_T32
      rw [show ((j : Int)).toNat = j from by omega]
      exact (List.getElem_eq_getD _).symm
    have hw : wrap64 ((j : Int) + 1) = ((j + 1 : Nat) : Int) := by unfold wrap64; omega
    obtain ⟨r, h1, h2⟩ := idx_some l c n hl d (j + 1) (by omega)
    rw [List.drop_eq_getElem_cons hj]
    unfold api_Txn_76.l0
    rw [if_pos (by omega), if_pos (by omega), if_pos (by omega), hrd, hw]
    by_cases hc : (c == (l[j]).f0 && (n == (l[j]).f1)) = true
    · rw [if_pos hc]
      refine ⟨_, rfl, ?_⟩
      rw [decide_eq_true (by omega)]
      unfold hasB
      rw [List.any_cons, hc]
      rfl
    · rw [if_neg hc]
      refine ⟨r, h1, ?_⟩
      rw [h2]
      unfold hasB
      rw [List.any_cons, Bool.eq_false_iff.2 hc]
      rfl
theorem has_calls (A : Option Addr) (k : Nat) (l : List S32) (c n : Int) (w : World) (hr : Kd.C k32 w A l.length l) (hk : l.length ≤ k) (hl : l.length ≤ 4611686018427387904) :
    Calls Try.prog 50 #[.slice A l.length k, .agg #[.int .u32 c, .int .u32 n]] w fun e w' => e = .returned (.bool (hasB l c n)) ∧ Mod w w' [] := by
  obtain ⟨r, h1, h2⟩ := idx_some l c n hl l.length 0 (by omega)
  have h : api_Txn_50.f (l.length + 1) l c n = some (hasB l c n) := by
    unfold api_Txn_50.f api_Txn_76.f
    rw [show (0 : Int) = ((0 : Nat) : Int) from rfl, h1, Option.bind_some]
    show some (decide (r ≥ 0)) = _
    rw [h2]
    rfl
  exact (api_Txn_50.calls _ A k l c n _ w hr hk h).mono fun e w' ⟨h1, h2⟩ => ⟨h1, Mod.of_below h2⟩
def lessB (a b c d : Int) : Bool := decide (a < c ∨ a = c ∧ b < d)
theorem lv_or (k : Nat) (hk : 3 ≤ k) (x y : Int) : cmp_Or_int.f k [x, y] = some (if x = 0 then y else x) := by
  obtain ⟨k, rfl⟩ : ∃ m, k = m + 3 := ⟨k - 3, by omega⟩
  have wrap_one : ∀ {i n : Int}, 0 ≤ i → i < n → n ≤ 9223372036854775807 → wrap64 (i + 1) = i + 1 := fun h0 h1 hn => by unfold wrap64; omega
  have w1 : wrap64 (0 + 1) = 1 := by rw [wrap_one (n := 10) (by omega) (by omega) (by omega)]; rfl
  have w2 : wrap64 (1 + 1) = 2 := by rw [wrap_one (n := 10) (by omega) (by omega) (by omega)]; rfl
  have r0 : rd [x, y] 0 = x := rfl
  have r1 : rd [x, y] 1 = y := rfl
  have hl : (([x, y] : List Int).length : Int) = 2 := rfl
  unfold cmp_Or_int.f
  rw [hl]
  unfold cmp_Or_int.l0
  rw [if_pos (by omega), if_pos (by omega), hl, if_pos (by omega), r0, w1]
  by_cases h : x = 0
  · rw [if_pos h, if_pos h]
    unfold cmp_Or_int.l0
    rw [if_pos (by omega), if_pos (by omega), hl, if_pos (by omega), r1, w2]
    by_cases h' : y = 0
    · rw [if_pos h']
      unfold cmp_Or_int.l0
      rw [if_neg (by omega), h']
    · rw [if_neg h']
  · rw [if_neg h, if_neg h]
theorem lv_64 (a b : Int) : cmp_Compare_uint64.f a b = some (if a < b then -1 else if b < a then 1 else 0) := by
  unfold cmp_Compare_uint64.f cmp_isNaN_uint64.f
  simp only [bne_self_eq_false, Option.bind_some, Bool.false_eq_true, if_false]
  by_cases h : a < b
  · rw [if_pos h, if_pos h]
  · rw [if_neg h, if_neg h]
    by_cases h' : b < a
    · rw [if_pos h', if_pos h']
    · rw [if_neg h', if_neg h']
theorem lv_32 (a b : Int) : cmp_Compare_uint32.f a b = some (if a < b then -1 else if b < a then 1 else 0) := by
  unfold cmp_Compare_uint32.f cmp_isNaN_uint32.f
  simp only [bne_self_eq_false, Option.bind_some, Bool.false_eq_true, if_false]
  by_cases h : a < b
  · rw [if_pos h, if_pos h]
  · rw [if_neg h, if_neg h]
    by_cases h' : b < a
    · rw [if_pos h', if_pos h']
    · rw [if_neg h', if_neg h']
theorem lv_less (a b c d : Int) : stamp_Less.f 3 a b c d = some (lessB a b c d) := by
  unfold stamp_Less.f lessB
  rw [lv_64, Option.bind_some, lv_32, Option.bind_some, lv_or 3 (by omega), Option.bind_some]
  congr 1
  rw [decide_eq_decide]
  split <;> split <;> (try split) <;> (try split) <;> omega
theorem less_calls (a b c d : Int) (w : World) : Calls Try.prog 49 #[.agg #[.int .u64 a, .int .u32 b], .agg #[.int .u64 c, .int .u32 d]] w fun e w' => e = .returned (.bool (lessB a b c d)) ∧ Mod w w' [] :=
  (stamp_Less.calls 3 a b c d _ w (lv_less a b c d)).mono fun e w' ⟨h1, h2⟩ => ⟨h1, Mod.of_below h2⟩
/-- which verdicts go -/

def rightB (p l : Int) : Bool := decide (p ≤ 281474976710656) && decide (l ≤ 4095)
theorem right_calls (p l : Int) (w : World) : Calls Try.prog 42 #[.agg #[.int .u64 p, .int .u32 l]] w fun e w' => e = .returned (.bool (rightB p l)) ∧ Mod w w' [] := by
  have h : stamp_Right.f p l = some (rightB p l) := by
    unfold stamp_Right.f rightB
    by_cases h : p ≤ 281474976710656 <;> simp [h]
  exact (stamp_Right.calls p l _ w h).mono fun e w' ⟨h1, h2⟩ => ⟨h1, Mod.of_below h2⟩
def keyB (k : ByteArray) : Bool := decide (1 ≤ k.size) && decide (k.size ≤ 32)
theorem key_calls (k : ByteArray) (w : World) : Calls Try.prog 59 #[.string k] w fun e w' => e = .returned (.bool (keyB k)) ∧ Mod w w' [] := by
  have h : latch_key.f k = some (keyB k) := by
    unfold latch_key.f keyB
    by_cases h : 1 ≤ k.size
    · rw [if_pos (by omega), decide_eq_true h, Bool.true_and]
      congr 1
      rw [decide_eq_decide]
      omega
    · rw [if_neg (by omega), decide_eq_false h]
      rfl
  exact (latch_key.calls k _ w h).mono fun e w' ⟨h1, h2⟩ => ⟨h1, Mod.of_drawn h2⟩
def mx2 (a b : S35) : S35 :=
  let m := if lessB 0 0 a.f0 a.f1 = true then a else z35
  if lessB m.f0 m.f1 b.f0 b.f1 = true then b else m
theorem mx2_f (a b : S35) : stamp_Max.f 8 [a, b] = some ((mx2 a b).f0, (mx2 a b).f1) := by
  have w1 : wrap64 (0 + 1) = 1 := by unfold wrap64; omega
  have w2 : wrap64 (1 + 1) = 2 := by unfold wrap64; omega
  have r0 : rd_T35 [a, b] 0 = a := rfl
  have r1 : rd_T35 [a, b] 1 = b := rfl
  have hl : (([a, b] : List S35).length : Int) = 2 := rfl
  have hless : ∀ k, 3 ≤ k → ∀ a b c d, stamp_Less.f k a b c d = some (lessB a b c d) := fun k hk a b c d => by
    unfold stamp_Less.f lessB
    rw [lv_64, Option.bind_some, lv_32, Option.bind_some, lv_or k hk, Option.bind_some]
    congr 1
    rw [decide_eq_decide]
    split <;> split <;> (try split) <;> (try split) <;> omega
  unfold stamp_Max.f mx2
  rw [hl]
  unfold stamp_Max.l0
  rw [if_pos (by omega), if_pos (by omega), hl, if_pos (by omega), r0, w1, hless _ (by decide), Option.bind_some]
  cases lessB 0 0 a.f0 a.f1
  all_goals
    simp only [if_true, Bool.false_eq_true, if_false]
    unfold stamp_Max.l0
    rw [if_pos (by omega), if_pos (by omega), hl, if_pos (by omega), r1, w2, hless _ (by decide), Option.bind_some]
  · show (if lessB 0 0 b.f0 b.f1 = true then _ else _) = some ((if lessB 0 0 b.f0 b.f1 = true then b else z35).f0, (if lessB 0 0 b.f0 b.f1 = true then b else z35).f1)
    cases lessB 0 0 b.f0 b.f1 <;> (simp only [if_true, Bool.false_eq_true, if_false]; unfold stamp_Max.l0; rw [if_neg (by omega)]; try rfl)
  · cases lessB a.f0 a.f1 b.f0 b.f1 <;> (simp only [if_true, Bool.false_eq_true, if_false]; unfold stamp_Max.l0; rw [if_neg (by omega)])
theorem max_calls (a b : S35) (A : Option Addr) (k : Nat) (w : World) (hr : Kd.C k35 w A 2 [a, b]) (hk : 2 ≤ k) :
    Calls Try.prog 70 #[.slice A 2 k] w fun e w' => e = .returned (.agg #[.int .u64 (mx2 a b).f0, .int .u32 (mx2 a b).f1]) ∧ Mod w w' [] :=
  (stamp_Max.calls 8 A k [a, b] _ _ w hr hk (mx2_f a b)).mono fun e w' ⟨h1, h2⟩ => ⟨h1, Mod.of_below h2⟩
/-- three blocks of the call's own behind one another -/
structure In3 (W V : World) (q : Nat) (h : Hd) (by_ : S32) (x : S63) : Prop where
  hM : Mod W V []
  hN : NB V q by_
  hW : WB V (q + 1) x
  hI : IB V (q + 2) z65
  hH : HB V h
  hq : W.heap.size ≤ q
theorem In3.made {W : World} {h : Hd} (hb : HB W h) (by_ : S32) (x : S63) : In3 W (((W.alloc (.cells #[.int .u32 by_.f0, .int .u32 by_.f1] 32)).alloc (.cells #[.string x.f0, .string x.f1, .bool x.f2] 63)).alloc (.cells #[.int .u32 z65.f0.f0, .int .u32 z65.f0.f1, .int .u64 z65.f1.f0, .int .u32 z65.f1.f1, .int .u64 z65.f2.f0, .int .u32 z65.f2.f1, .string z65.f3, .string z65.f4.f0, .string z65.f4.f1, .bool z65.f4.f2] 65)) W.heap.size h by_ x := by
  have m0 := (Mod.refl W []).alloc (.cells #[.int .u32 by_.f0, .int .u32 by_.f1] 32)
  have m1 := (Mod.refl (W.alloc (.cells #[.int .u32 by_.f0, .int .u32 by_.f1] 32)) []).alloc (.cells #[.string x.f0, .string x.f1, .bool x.f2] 63)
  have m2 := (Mod.refl ((W.alloc (.cells #[.int .u32 by_.f0, .int .u32 by_.f1] 32)).alloc (.cells #[.string x.f0, .string x.f1, .bool x.f2] 63)) []).alloc (.cells #[.int .u32 z65.f0.f0, .int .u32 z65.f0.f1, .int .u64 z65.f1.f0, .int .u32 z65.f1.f1, .int .u64 z65.f2.f0, .int .u32 z65.f2.f1, .string z65.f3, .string z65.f4.f0, .string z65.f4.f1, .bool z65.f4.f2] 65)
  have s1 : (W.alloc (.cells #[.int .u32 by_.f0, .int .u32 by_.f1] 32)).heap.size = W.heap.size + 1 := by simp
  have s2 : ((W.alloc (.cells #[.int .u32 by_.f0, .int .u32 by_.f1] 32)).alloc (.cells #[.string x.f0, .string x.f1, .bool x.f2] 63)).heap.size = W.heap.size + 2 := by simp
  have n0 : NB (W.alloc (.cells #[.int .u32 by_.f0, .int .u32 by_.f1] 32)) W.heap.size by_ := blk_new W _
  have w0 : WB ((W.alloc (.cells #[.int .u32 by_.f0, .int .u32 by_.f1] 32)).alloc (.cells #[.string x.f0, .string x.f1, .bool x.f2] 63)) (W.heap.size + 1) x := s1 ▸ blk_new _ _
  have i0 : IB (((W.alloc (.cells #[.int .u32 by_.f0, .int .u32 by_.f1] 32)).alloc (.cells #[.string x.f0, .string x.f1, .bool x.f2] 63)).alloc (.cells #[.int .u32 z65.f0.f0, .int .u32 z65.f0.f1, .int .u64 z65.f1.f0, .int .u32 z65.f1.f1, .int .u64 z65.f2.f0, .int .u32 z65.f2.f1, .string z65.f3, .string z65.f4.f0, .string z65.f4.f1, .bool z65.f4.f2] 65)) (W.heap.size + 2) z65 := s2 ▸ blk_new _ _
  have mm := (m0.trans m1 (fun _ hk => by cases hk)).trans m2 (fun _ hk => by cases hk)
  exact ⟨mm, (n0.mod m1 (by simp)).mod m2 (by simp), w0.mod m2 (by simp), i0, hb.mod mm (fun _ _ => by simp), Nat.le_refl _⟩
set_option maxHeartbeats 4000000 in
set_option maxRecDepth 100000 in
theorem intent_calls {W : World} {h : Hd} (hb : HB W h) (y : S65) (e1 : h.st = y.f1) (e2 : h.mn = y.f2) (e3 : h.pr = y.f3) :
    Calls Try.prog 68 #[.pointer (some ⟨h.q, 0, none⟩), .agg #[.int .u32 y.f0.f0, .int .u32 y.f0.f1], .agg #[.string y.f4.f0, .string y.f4.f1, .bool y.f4.f2]] W fun e W' => e = .returned (.agg #[.int .u32 y.f0.f0, .int .u32 y.f0.f1, .int .u64 y.f1.f0, .int .u32 y.f1.f1, .int .u64 y.f2.f0, .int .u32 y.f2.f1, .string y.f3, .string y.f4.f0, .string y.f4.f1, .bool y.f4.f2]) ∧ Mod W W' [] := by
  have HE := Lib.hid (And.intro e1 (And.intro e2 e3))
  clear e1 e2 e3
  have H3 := Lib.hid (In3.made hb y.f0 y.f4)
  simp only [z65, z32, z35, z63] at H3
  have hs1 : (W.alloc (.cells #[.int .u32 y.f0.f0, .int .u32 y.f0.f1] 32)).heap.size = W.heap.size + 1 := by simp
  have hs2 : ((W.alloc (.cells #[.int .u32 y.f0.f0, .int .u32 y.f0.f1] 32)).alloc (.cells #[.string y.f4.f0, .string y.f4.f1, .bool y.f4.f2] 63)).heap.size = W.heap.size + 2 := by simp
  clear hb
  go_enter Try.func68, Try.ntmps68
  go_upto_region 1 with fail
  clear hs1 hs2
  generalize ((W.alloc _).alloc _).alloc _ = V at *
  generalize W.heap.size = q at *
  obtain ⟨a0, a1⟩ := H3.out.hN.all
  obtain ⟨b0, b1, b2⟩ := H3.out.hW.all
  obtain ⟨c0, c1, c2, c3, c4, c5, c6, c7, c8, c9⟩ := H3.out.hI.all
  simp only [z65, z32, z35, z63] at c0 c1 c2 c3 c4 c5 c6 c7 c8 c9
  have d0 : V.cell? ⟨h.q, 0, none⟩ = some (.int .u64 y.f1.f0) := (blk_cell H3.out.hH.hq 0).trans (by rw [← HE.out.1]; rfl)
  have d1 : V.cell? ⟨h.q, 1, none⟩ = some (.int .u32 y.f1.f1) := (blk_cell H3.out.hH.hq 1).trans (by rw [← HE.out.1]; rfl)
  have d2 : V.cell? ⟨h.q, 2, none⟩ = some (.int .u64 y.f2.f0) := (blk_cell H3.out.hH.hq 2).trans (by rw [← HE.out.2.1]; rfl)
  have d3 : V.cell? ⟨h.q, 3, none⟩ = some (.int .u32 y.f2.f1) := (blk_cell H3.out.hH.hq 3).trans (by rw [← HE.out.2.1]; rfl)
  have d4 : V.cell? ⟨h.q, 4, none⟩ = some (.string y.f3) := (blk_cell H3.out.hH.hq 4).trans (by rw [← HE.out.2.2]; rfl)
  have fz := blk_frozen H3.out.hI
  go_still_tail 15, (by kernel_rfl)
  change wpList _ _ _ _ _ V.drew
  have hi : IB V.drew (q + 2) z65 := H3.out.hI
  have HM : Hid (Mod W V.drew [] ∧ W.heap.size ≤ q + 2) := Lib.hid ⟨H3.out.hM.drew, by have := H3.out.hq; omega⟩
  clear a0 a1 b0 b1 b2 c0 c1 c2 c3 c4 c5 c6 c7 c8 c9 d0 d1 d2 d3 d4 fz H3
  generalize V.drew = V2 at *
  obtain ⟨c0, c1, c2, c3, c4, c5, c6, c7, c8, c9⟩ := hi.all
  simp only [z65, z32, z35, z63] at c0 c1 c2 c3 c4 c5 c6 c7 c8 c9
  have fz := blk_frozen hi
  go_wp2
  have hp := hi.put y
  have hm := HM.out.1.putIB (.inr HM.out.2) y
  unfold putIB at hp hm
  unfold IB at hp
  refine bodyPost_ret (results_cell_row rfl _ _ (q + 2) 65 _ (0, 0) _ rfl hp Try.underlying65 rfl (by kernel_rfl)) rfl ?_
  exact ⟨rfl, hm⟩
end Go.Proofs.Ytdelbidaclddgaa.Lat
