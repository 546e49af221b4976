/- The law StampSums walked by hand; a seat's own text. -/
import Derived.Test.YthfaacheolhjnaaDoorMStampOrdersx2
import Derived.Deep.LoopGhost
import Derived.Deep.Cut
import Derived.Lib.Hide
import Derived.StillTailTactics
import Derived.Deep.QuietTactic
import Derived.BigQuiet
import Derived.Outline
import Derived.Deep.RegionWith
import Derived.Deep.RegionHeld3
import Derived.WalkLawsBesides
namespace Go.Proofs.YthfaacheolhjnaaDoor.FSums
open Go.RowKit Go.Proofs.YthfaacheolhjnaaDoorW.PrintWords
set_option linter.unusedVariables false
set_option linter.unusedSimpArgs false
/-! whole numbers as floats: the nearest float is the number itself, below 2^53 -/
open Ieee

theorem log2_mul_pow (m q : Nat) (hm : 0 < m) : (m * 2 ^ q).log2 = m.log2 + q := by
  have h := Nat.log2_self_le (n := m) (by omega)
  have h2 := Nat.lt_log2_self (n := m)
  have hne : m * 2 ^ q ≠ 0 := Nat.mul_ne_zero (by omega) (by have := Nat.two_pow_pos q; omega)
  refine Nat.le_antisymm (Nat.lt_succ_iff.1 ((Nat.log2_lt hne).2 ?_)) ((Nat.le_log2 hne).2 ?_)
  · rw [show (m.log2 + q).succ = (m.log2 + 1) + q from by omega, Nat.pow_add]
    exact (Nat.mul_lt_mul_right (Nat.two_pow_pos q)).2 h2
  · rw [Nat.pow_add]
    exact Nat.mul_le_mul_right _ h

/-- the word of a whole number below 2^53 times 2^q, over 2^q -/
theorem nearest_eq (neg : Bool) (m q : Nat) (hm : 0 < m) (h53 : m < 2 ^ 53) :
    double.nearest neg (m * 2 ^ q) (-(q : Int)) = double.word neg ((m.log2 + 1022) * 2 ^ 52 + m * 2 ^ (52 - m.log2)) := by
  have hl : m.log2 ≤ 52 := Nat.lt_succ_iff.1 ((Nat.log2_lt (by omega)).2 h53)
  have hne : m * 2 ^ q ≠ 0 := Nat.mul_ne_zero (by omega) (by have := Nat.two_pow_pos q; omega)
  have hlast : max (-(q : Int) + ((m * 2 ^ q).log2 : Int) - (double.fractionBits : Int)) double.leastPlace = (m.log2 : Int) - 52 := by
    rw [log2_mul_pow m q hm]
    have e1 : double.leastPlace = -1074 := by decide
    have e2 : double.fractionBits = 52 := rfl
    rw [e1, e2]; omega
  have hkept : Toward.even.cut neg ((m * 2 ^ q) <<< (-(q : Int) - ((m.log2 : Int) - 52)).toNat) ((m.log2 : Int) - 52 - -(q : Int)).toNat = m * 2 ^ (52 - m.log2) := by
    by_cases hq : q + m.log2 ≤ 52
    · rw [show (-(q : Int) - ((m.log2 : Int) - 52)).toNat = 52 - m.log2 - q from by omega, show ((m.log2 : Int) - 52 - -(q : Int)).toNat = 0 from by omega]
      have hz : ∀ n, Toward.even.cut neg n 0 = n := by
        intro n
        simp [Toward.cut, Nat.mod_one]
      rw [hz, Nat.shiftLeft_eq, Nat.mul_assoc, ← Nat.pow_add]
      congr 2; omega
    · rw [show (-(q : Int) - ((m.log2 : Int) - 52)).toNat = 0 from by omega, show ((m.log2 : Int) - 52 - -(q : Int)).toNat = m.log2 + q - 52 from by omega]
      rw [Nat.shiftLeft_zero]
      have hmin : min (m.log2 + q - 52) ((m * 2 ^ q).log2 + 2) = m.log2 + q - 52 := by
        rw [log2_mul_pow m q hm]; omega
      have hsp : m * 2 ^ q = m * 2 ^ (52 - m.log2) * 2 ^ (m.log2 + q - 52) := by
        rw [Nat.mul_assoc, ← Nat.pow_add]; congr 2; omega
      have hp := Nat.two_pow_pos (m.log2 + q - 52)
      unfold Toward.cut
      rw [hmin, Nat.one_shiftLeft]
      dsimp only
      rw [hsp, Nat.mul_mod_left, Nat.mul_div_cancel _ hp]
      simp
  have hk1 : 2 ^ 52 ≤ m * 2 ^ (52 - m.log2) ∧ m * 2 ^ (52 - m.log2) < 2 ^ 53 := by
    have h := Nat.log2_self_le (n := m) (by omega)
    have h2 := Nat.lt_log2_self (n := m)
    constructor
    · calc 2 ^ 52 = 2 ^ m.log2 * 2 ^ (52 - m.log2) := by rw [← Nat.pow_add]; congr 1; omega
        _ ≤ _ := Nat.mul_le_mul_right _ h
    · calc m * 2 ^ (52 - m.log2) < 2 ^ (m.log2 + 1) * 2 ^ (52 - m.log2) := (Nat.mul_lt_mul_right (Nat.two_pow_pos _)).2 h2
        _ = 2 ^ 53 := by rw [← Nat.pow_add]; congr 1; omega
  unfold Format.nearest
  rw [if_neg hne]
  dsimp only
  rw [hlast, hkept]
  have e1 : double.leastPlace = -1074 := by decide
  have e3 : double.binade = 2 ^ 52 := rfl
  have e4 : double.infRung = 2047 * 2 ^ 52 := by decide
  rw [e1, e3, e4, show ((m.log2 : Int) - 52 - -1074).toNat = m.log2 + 1022 from by omega]
  congr 1
  apply Nat.min_eq_left
  have := hk1.2
  omega

theorem read_word (neg : Bool) (l k : Nat) (hl : l ≤ 52) (h1 : 2 ^ 52 ≤ k) (h2 : k < 2 ^ 53) :
    double.read (double.word neg ((l + 1022) * 2 ^ 52 + k)) = .number neg k ((l : Int) - 52) := by
  have e0 : double.signWeight = 2 ^ 63 := rfl
  have e1 : double.leastPlace = -1074 := by decide
  have e3 : double.binade = 2 ^ 52 := rfl
  have e4 : double.infRung = 2047 * 2 ^ 52 := by decide
  have hr : (l + 1022) * 2 ^ 52 + k < 2 ^ 63 := by omega
  have a1 : double.word neg ((l + 1022) * 2 ^ 52 + k) % 2 ^ 63 = (l + 1022) * 2 ^ 52 + k := by
    unfold Format.word; rw [e0]; cases neg
    · simp only [Bool.false_eq_true, if_false]; omega
    · simp only [if_true]; omega
  have a2 : (double.word neg ((l + 1022) * 2 ^ 52 + k) / 2 ^ 63 % 2 == 1) = neg := by
    unfold Format.word; rw [e0]; cases neg
    · simp only [Bool.false_eq_true, if_false]
      rw [Nat.div_eq_of_lt hr]; rfl
    · simp only [if_true]
      rw [show (2 ^ 63 + ((l + 1022) * 2 ^ 52 + k)) / 2 ^ 63 = 1 from by omega]; rfl
  unfold Format.read
  dsimp only
  rw [e0, e1, e3, e4, a1, a2]
  rw [if_neg (by omega), if_pos (by omega)]
  congr 1
  · omega
  · omega

/-- 'd' stands for the whole number 'n', over a place that is no digit above the point -/
def Rep (d : Datum) (n : Int) : Prop := ∃ (s : Bool) (m q : Nat), d = .number s m (-(q : Int)) ∧ signed s m 0 = n * (2 : Int) ^ q

theorem signed_shift (s : Bool) (m k : Nat) : signed s m k = signed s m 0 * (2 : Int) ^ k := by
  unfold signed
  cases s <;> simp [Nat.shiftLeft_eq, Int.neg_mul]

theorem rep_nearest (n : Int) (h : n.natAbs < 2 ^ 53) : Rep (double.read (FloatKind.f64.nearest n)) n := by
  unfold FloatKind.nearest FloatKind.encode FloatKind.format Format.write
  by_cases h0 : n = 0
  · subst h0
    exact ⟨false, 0, 1074, by decide, (show signed false 0 0 = 0 from rfl).trans (Int.zero_mul _).symm⟩
  · have hm : 0 < n.natAbs := by omega
    have e := nearest_eq (decide (n < 0)) n.natAbs 0 hm h
    simp only [Nat.pow_zero, Nat.mul_one, Int.ofNat_zero, Int.neg_zero] at e
    have hl : n.natAbs.log2 ≤ 52 := Nat.lt_succ_iff.1 ((Nat.log2_lt (by omega)).2 h)
    have h' := Nat.log2_self_le (n := n.natAbs) (by omega)
    have h2' := Nat.lt_log2_self (n := n.natAbs)
    have hk1 : 2 ^ 52 ≤ n.natAbs * 2 ^ (52 - n.natAbs.log2) := by
      calc 2 ^ 52 = 2 ^ n.natAbs.log2 * 2 ^ (52 - n.natAbs.log2) := by rw [← Nat.pow_add]; congr 1; omega
        _ ≤ _ := Nat.mul_le_mul_right _ h'
    have hk2 : n.natAbs * 2 ^ (52 - n.natAbs.log2) < 2 ^ 53 := by
      calc n.natAbs * 2 ^ (52 - n.natAbs.log2) < 2 ^ (n.natAbs.log2 + 1) * 2 ^ (52 - n.natAbs.log2) := (Nat.mul_lt_mul_right (Nat.two_pow_pos _)).2 h2'
        _ = 2 ^ 53 := by rw [← Nat.pow_add]; congr 1; omega
    refine ⟨decide (n < 0), n.natAbs * 2 ^ (52 - n.natAbs.log2), 52 - n.natAbs.log2, ?_, ?_⟩
    · show double.read (double.nearest _ _ _) = _
      rw [e, read_word _ _ _ hl hk1 hk2]
      congr 1; omega
    · unfold signed
      rw [Nat.shiftLeft_zero]
      by_cases hn : n < 0
      · simp only [hn, decide_true, if_true]
        rw [Int.natCast_mul, show ((n.natAbs : Nat) : Int) = -n from by omega, Int.neg_mul, Int.neg_neg]
        simp
      · simp only [hn, decide_false, Bool.false_eq_true, if_false]
        rw [Int.natCast_mul, show ((n.natAbs : Nat) : Int) = n from by omega]
        simp

theorem rep_opp {d : Datum} {n : Int} (h : Rep d n) : Rep d.opposite (-n) := by
  obtain ⟨s, m, q, rfl, e⟩ := h
  refine ⟨!s, m, q, rfl, ?_⟩
  rw [Int.neg_mul, ← e]; unfold signed; cases s <;> simp

theorem rep_order {d e : Datum} {n k : Int} (h : Rep d n) (g : Rep e k) : d.order e = some (compare n k) := by
  obtain ⟨s, m, q, rfl, e1⟩ := h
  obtain ⟨t, j, p, rfl, e2⟩ := g
  unfold Datum.order
  dsimp only
  rw [signed_shift s, signed_shift t, e1, e2, Int.mul_assoc, Int.mul_assoc, ← Int.pow_add, ← Int.pow_add]
  rw [show q + (-(q : Int) - min (-(q : Int)) (-(p : Int))).toNat = max q p from by omega, show p + (-(p : Int) - min (-(q : Int)) (-(p : Int))).toNat = max q p from by omega]
  have hp : (0 : Int) < (2 : Int) ^ (max q p) := Int.pow_pos (by decide)
  congr 1
  show compareOfLessAndEq _ _ = compareOfLessAndEq _ _
  unfold compareOfLessAndEq
  rcases Int.lt_trichotomy n k with c | c | c
  · rw [if_pos (Int.mul_lt_mul_of_pos_right c hp), if_pos c]
  · subst c; simp
  · have : ¬ n * (2 : Int) ^ max q p < k * (2 : Int) ^ max q p := by
      have := Int.mul_lt_mul_of_pos_right c hp; omega
    have h2 : ¬ n * (2 : Int) ^ max q p = k * (2 : Int) ^ max q p := by
      have := Int.mul_lt_mul_of_pos_right c hp; omega
    rw [if_neg this, if_neg h2, if_neg (by omega), if_neg (by omega)]

theorem nearest_signed (neg : Bool) (m q : Nat) (hm : 0 < m) (h53 : m < 2 ^ 53) :
    double.nearest neg (m * 2 ^ q) (-(q : Int)) = double.nearest neg m 0 := by
  have e1 := nearest_eq neg m q hm h53
  have e2 := nearest_eq neg m 0 hm h53
  simp only [Nat.pow_zero, Nat.mul_one, Int.ofNat_zero, Int.neg_zero] at e2
  rw [e1, e2]

/-- a whole number's word has no sign where the number has none -/
theorem rep_neg (a : Nat) (h : a < 2 ^ 53) : ∃ m q : Nat, double.read (FloatKind.f64.nearest a) = .number false m (-(q : Int)) ∧ (m : Int) = (a : Int) * (2 : Int) ^ q := by
  obtain ⟨s, m, q, e, g⟩ := rep_nearest (a : Int) (by omega)
  have hp : (0 : Int) < (2 : Int) ^ q := Int.pow_pos (by decide)
  cases s
  · exact ⟨m, q, e, by rw [← g]; simp [signed]⟩
  · by_cases h0 : a = 0
    · subst h0
      rw [show double.read (FloatKind.f64.nearest ((0 : Nat) : Int)) = .number false 0 (-1074) from by decide] at e
      simp at e
    · exfalso
      have : (0 : Int) < (a : Int) * (2 : Int) ^ q := Int.mul_pos (by omega) hp
      rw [← g] at this; simp [signed] at this; omega

theorem sub_nearest (a b : Nat) (ha : a < 2 ^ 52) (hb : b < 2 ^ 52) :
    double.sub (FloatKind.f64.nearest a) (FloatKind.f64.nearest b) = some (FloatKind.f64.nearest ((a : Int) - b)) := by
  obtain ⟨m, q, e1, g1⟩ := rep_neg a (by omega)
  obtain ⟨j, p, e2, g2⟩ := rep_neg b (by omega)
  unfold Format.sub
  rw [e1, e2]
  unfold Datum.opposite Datum.sum
  dsimp only
  rw [signed_shift false, signed_shift (!false)]
  have s1 : signed false m 0 = (a : Int) * (2 : Int) ^ q := by rw [← g1]; simp [signed]
  have s2 : signed (!false) j 0 = -((b : Int) * (2 : Int) ^ p) := by rw [← g2]; simp [signed]
  rw [s1, s2]
  have hx : (a : Int) * (2 : Int) ^ q * (2 : Int) ^ (-(q : Int) - min (-(q : Int)) (-(p : Int))).toNat + -((b : Int) * (2 : Int) ^ p) * (2 : Int) ^ (-(p : Int) - min (-(q : Int)) (-(p : Int))).toNat = ((a : Int) - b) * (2 : Int) ^ (max q p) := by
    rw [Int.neg_mul, Int.mul_assoc, Int.mul_assoc, ← Int.pow_add, ← Int.pow_add]
    rw [show q + (-(q : Int) - min (-(q : Int)) (-(p : Int))).toNat = max q p from by omega, show p + (-(p : Int) - min (-(q : Int)) (-(p : Int))).toNat = max q p from by omega]
    rw [Int.sub_mul]; omega
  rw [hx]
  have hmin : min (-(q : Int)) (-(p : Int)) = -((max q p : Nat) : Int) := by omega
  rw [hmin]
  generalize max q p = r
  have hp : (0 : Int) < (2 : Int) ^ r := Int.pow_pos (by decide)
  have hna : (((a : Int) - b) * (2 : Int) ^ r).natAbs = ((a : Int) - b).natAbs * 2 ^ r := by
    rw [Int.natAbs_mul, Int.natAbs_pow]; rfl
  rw [hna]
  unfold FloatKind.nearest FloatKind.encode FloatKind.format
  simp only [Option.map_some]
  congr 1
  unfold Format.write
  dsimp only
  generalize hd : (a : Int) - b = d
  have hd53 : d.natAbs < 2 ^ 53 := by omega
  by_cases h0 : d = 0
  · subst h0; simp [Format.nearest]
  · rw [nearest_signed _ _ _ (by omega) hd53]
    congr 1
    have h1 : d * (2 : Int) ^ r ≠ 0 := Int.mul_ne_zero h0 (by omega)
    rw [if_neg h1]
    by_cases hn : d < 0
    · simp [hn, Int.mul_neg_of_neg_of_pos hn hp]
    · have : 0 < d * (2 : Int) ^ r := Int.mul_pos (by omega) hp
      simp [hn]; omega

theorem order_nearest {n k : Int} (h : n.natAbs < 2 ^ 53) (g : k.natAbs < 2 ^ 53) : FloatKind.f64.format.order (floatOfInt .f64 n) (floatOfInt .f64 k) = some (compare n k) := by
  unfold Format.order
  exact rep_order (rep_nearest n h) (rep_nearest k g)
theorem order_same {n : Int} (h : n.natAbs < 2 ^ 53) : FloatKind.f64.format.order (floatOfInt .f64 n) (floatOfInt .f64 n) = some .eq := by
  rw [order_nearest h h]; congr 1; simp [compare, compareOfLessAndEq]
theorem zero_bits : floatOfInt .f64 0 = 0 := by decide
theorem order_zero {n : Int} (h : n.natAbs < 2 ^ 53) : FloatKind.f64.format.order (floatOfInt .f64 n) 0 = some (compare n 0) := by
  have := order_nearest (n := n) (k := 0) h (by decide)
  rwa [zero_bits] at this
theorem csub {a b c d : Int} (ha : 0 ≤ a) (ha' : a < 2 ^ 52) (hb : 0 ≤ b) (hb' : b < 2 ^ 52) (hc : 0 ≤ c) (hc' : c < 2 ^ 52) (hd : 0 ≤ d) (hd' : d < 2 ^ 52) :
    cSumBits .sub .f64 (floatOfInt .f64 a) (floatOfInt .f64 b) (floatOfInt .f64 c) (floatOfInt .f64 d) = some (floatOfInt .f64 (a - c), floatOfInt .f64 (b - d)) := by
  have h1 := sub_nearest a.toNat c.toNat (by omega) (by omega)
  have h2 := sub_nearest b.toNat d.toNat (by omega) (by omega)
  rw [Int.toNat_of_nonneg ha, Int.toNat_of_nonneg hc] at h1
  rw [Int.toNat_of_nonneg hb, Int.toNat_of_nonneg hd] at h2
  unfold cSumBits floatBits
  show ((double.sub _ _).bind _) = _
  unfold floatOfInt
  rw [h1, Option.bind_some]
  show ((double.sub _ _).bind _) = _
  rw [h2, Option.bind_some]
/-! stamp.Point, walked -/
open Go.Proofs.YthfaacheolhjnaaDoor.MStampOrders Go.Proofs.YthfaacheolhjnaaDoorW.PrintLast
def rightB (p l : Int) : Bool := decide (p ≤ 281474976710656) && decide (l ≤ 4095)
theorem right_eq (p l : Int) : stamp_Right.f p l = some (rightB p l) := by
  unfold stamp_Right.f rightB
  by_cases h : p ≤ 281474976710656 <;> simp [h]
theorem right_iff (p l : Int) : rightB p l = true ↔ p ≤ 281474976710656 ∧ l ≤ 4095 := by simp [rightB]
theorem right_calls (p l : Int) (w : World) : Calls Tryd.prog 8 #[.agg #[.int .u64 p, .int .u32 l]] w fun e w' => e = .returned (.bool (rightB p l)) ∧ Below w.heap.size w w' :=
  stamp_Right.calls p l _ w (right_eq p l)
/-- two numbers in a block of the call's own -/
def Bk (W : World) (g : Nat) (p l : Int) : Prop := W.heap[g]? = some (.cells #[.int .u64 p, .int .u32 l] 25 (0, 0))
theorem Bk.c0 {W : World} {g : Nat} {p l : Int} (h : Bk W g p l) : W.cell? ⟨g, 0, none⟩ = some (.int .u64 p) := (blk_cell h 0).trans rfl
theorem Bk.c1 {W : World} {g : Nat} {p l : Int} (h : Bk W g p l) : W.cell? ⟨g, 1, none⟩ = some (.int .u32 l) := (blk_cell h 1).trans rfl
theorem Bk.step {W W' : World} {g : Nat} {p l : Int} (h : Bk W g p l) (m : Below W.heap.size W W') : Bk W' g p l := blk_below h m
theorem Bk.new (W : World) (p l : Int) : Bk (W.alloc (.cells #[.int .u64 p, .int .u32 l] 25)) W.heap.size p l := blk_new W _
def ptV (p l : Int) : Value := if rightB p l = true then .complex .f64 (floatOfInt .f64 p) (floatOfInt .f64 l) else .complex .f64 0 0
set_option maxHeartbeats 4000000 in
set_option maxRecDepth 100000 in
theorem point_calls (p l : Int) (w : World) : Calls Tryd.prog 10 #[.agg #[.int .u64 p, .int .u32 l]] w fun e w' => e = .returned (ptV p l) ∧ Below w.heap.size w w' := by
  have hB := Bk.new w p l
  have hl := below_alloc (Below.refl w.heap.size w) (.cells #[.int .u64 p, .int .u32 l] 25)
  unfold ptV
  generalize hr : rightB p l = r
  have hc : ∀ W, Calls Tryd.prog 8 #[.agg #[.int .u64 p, .int .u32 l]] W fun e w' => e = .returned (.bool r) ∧ Below W.heap.size W w' := fun W => hr ▸ right_calls p l W
  go_enter Tryd.func10, Tryd.ntmps10
  cases r
  · go_wp2_with (go_at_call 8; refine (hc _).mono ?_; rintro e W1 ⟨rfl, m1⟩)
    go_ret
    exact ⟨rfl, below_step hl m1⟩
  · go_wp2_with (go_at_call 8; refine (hc _).mono ?_; rintro e W1 ⟨rfl, m1⟩; have c0 := (hB.step m1).c0; have c1 := (hB.step m1).c1)
    go_ret
    exact ⟨rfl, below_step hl m1⟩
/-! StampSums -/
theorem sm_or (k : Nat) (hk : 3 ≤ k) (x y : Int) : cmp_Or_int.f k [x, y] = some (if x = 0 then y else x) := by
  obtain ⟨k, rfl⟩ : ∃ m, k = m + 3 := ⟨k - 3, by omega⟩
  have wrap_one : ∀ {i n : Int}, 0 ≤ i → i < n → n ≤ 9223372036854775807 → wrap64 (i + 1) = i + 1 := fun h0 h1 hn => by unfold wrap64; omega
  have w1 : wrap64 (0 + 1) = 1 := by rw [wrap_one (n := 10) (by omega) (by omega) (by omega)]; rfl
  have w2 : wrap64 (1 + 1) = 2 := by rw [wrap_one (n := 10) (by omega) (by omega) (by omega)]; rfl
  have r0 : rd [x, y] 0 = x := rfl
  have r1 : rd [x, y] 1 = y := rfl
  have hl : (([x, y] : List Int).length : Int) = 2 := rfl
  unfold cmp_Or_int.f
  rw [hl]
  unfold cmp_Or_int.l0
  rw [if_pos (by omega), if_pos (by omega), hl, if_pos (by omega), r0, w1]
  by_cases h : x = 0
  · rw [if_pos h, if_pos h]
    unfold cmp_Or_int.l0
    rw [if_pos (by omega), if_pos (by omega), hl, if_pos (by omega), r1, w2]
    by_cases h' : y = 0
    · rw [if_pos h']
      unfold cmp_Or_int.l0
      rw [if_neg (by omega), h']
    · rw [if_neg h']
  · rw [if_neg h, if_neg h]
theorem sm_64 (a b : Int) : cmp_Compare_uint64.f a b = some (if a < b then -1 else if b < a then 1 else 0) := by
  unfold cmp_Compare_uint64.f cmp_isNaN_uint64.f
  simp only [bne_self_eq_false, Option.bind_some, Bool.false_eq_true, if_false]
  by_cases h : a < b
  · rw [if_pos h, if_pos h]
  · rw [if_neg h, if_neg h]
    by_cases h' : b < a
    · rw [if_pos h', if_pos h']
    · rw [if_neg h', if_neg h']
theorem sm_32 (a b : Int) : cmp_Compare_uint32.f a b = some (if a < b then -1 else if b < a then 1 else 0) := by
  unfold cmp_Compare_uint32.f cmp_isNaN_uint32.f
  simp only [bne_self_eq_false, Option.bind_some, Bool.false_eq_true, if_false]
  by_cases h : a < b
  · rw [if_pos h, if_pos h]
  · rw [if_neg h, if_neg h]
    by_cases h' : b < a
    · rw [if_pos h', if_pos h']
    · rw [if_neg h', if_neg h']
def lessB (a b c d : Int) : Bool := decide (a < c ∨ a = c ∧ b < d)
theorem sm_less (a b c d : Int) : stamp_Less.f 3 a b c d = some (lessB a b c d) := by
  unfold stamp_Less.f lessB
  rw [sm_64, Option.bind_some, sm_32, Option.bind_some, sm_or 3 (by omega), Option.bind_some]
  congr 1
  rw [decide_eq_decide]
  split <;> split <;> (try split) <;> (try split) <;> omega
theorem less_calls (a b c d : Int) (w : World) : Calls Tryd.prog 11 #[.agg #[.int .u64 a, .int .u32 b], .agg #[.int .u64 c, .int .u32 d]] w fun e w' => e = .returned (.bool (lessB a b c d)) ∧ Below w.heap.size w w' :=
  stamp_Less.calls 3 a b c d _ w (sm_less a b c d)
def nxt (p l : Int) : Int × Int × Int := if rightB p l = true then (if l < 4095 then (p, l + 1, 0) else if p < 281474976710656 then (p + 1, 0, 0) else (0, 0, 20)) else (0, 0, 1)
theorem nxt_eq {p l : Int} (hp : 0 ≤ p) (hl : 0 ≤ l) : stamp_Next.f p l = some (nxt p l) := by
  have wrap_u64 : ∀ {n : Int}, 0 ≤ n → n ≤ 18446744073709551615 → IntKind.u64.wrap n = n := fun h0 h1 => by
    simp only [IntKind.wrap, IntKind.signed, IntKind.bits, Bool.false_and, Bool.false_eq_true, if_false]
    omega
  unfold stamp_Next.f nxt
  rw [right_eq, Option.bind_some]
  by_cases h : rightB p l = true
  · rw [if_pos h, if_pos h]
    obtain ⟨h1, h2⟩ := (right_iff p l).1 h
    have e : (l + 1) % 4294967296 = l + 1 := by omega
    rw [e]
    by_cases h3 : l < 4095
    · rw [if_neg (by omega), if_pos h3, right_eq, Option.bind_some, if_pos ((right_iff _ _).2 ⟨h1, by omega⟩)]
    · rw [if_pos (by omega), if_neg h3, wrap_u64 (by omega) (by omega), right_eq, Option.bind_some]
      by_cases h4 : p < 281474976710656
      · rw [if_pos ((right_iff _ _).2 ⟨by omega, by omega⟩), if_pos h4]
      · rw [if_neg (by rw [right_iff]; omega), if_neg h4]
  · rw [if_neg h, if_neg h]
theorem text57 : stamp_Text.f 5 7 = some ⟨#[53, 46, 55]⟩ := by
  have e1 : digit 5 = ⟨#[53]⟩ := by decide +kernel
  have e2 : digit 7 = ⟨#[55]⟩ := by decide +kernel
  unfold stamp_Text.f
  rw [if_pos (by omega), show (5 : Int).toNat = 5 from rfl, show (7 : Int).toNat = 7 from rfl, e1, e2]
  rfl
theorem awk_eq : dovecotelaw01_awake.f = some true := by
  unfold dovecotelaw01_awake.f
  rw [nxt_eq (by omega) (by omega), Option.bind_some, text57, Option.bind_some]
  have h : ((⟨#[53, 46, 55]⟩ : ByteArray).toList = ([53, 46, 55] : List UInt8)) := by decide +kernel
  rw [if_pos h]
  decide
theorem awk_calls (w : World) : Calls Tryd.prog 7 #[] w fun e w' => e = .returned (.bool true) ∧ Below w.heap.size w w' := dovecotelaw01_awake.calls true w awk_eq
def inB (a0 a1 b0 b1 : Int) : Prop := (0 ≤ a0 ∧ a0 < 18446744073709551616) ∧ (0 ≤ a1 ∧ a1 < 4294967296) ∧ (0 ≤ b0 ∧ b0 < 18446744073709551616) ∧ 0 ≤ b1 ∧ b1 < 4294967296
instance decB (a0 a1 b0 b1 : Int) : Decidable (inB a0 a1 b0 b1) := by unfold inB; infer_instance
def dovecotelaw01_StampSums.f (k : Nat) (a0 a1 b0 b1 : Int) : Option Bool := if inB a0 a1 b0 b1 then some true else none
/-- the last test: ahead in order just where the point lies ahead -/
theorem ahead {a0 a1 b0 b1 : Int} (h0 : (b0 - a0).natAbs < 2 ^ 53) (h1 : (b1 - a1).natAbs < 2 ^ 53) :
    lessB a0 a1 b0 b1 = ((FloatKind.f64.format.order (floatOfInt .f64 (b0 - a0)) 0 == some .gt) || ((FloatKind.f64.format.order (floatOfInt .f64 (b0 - a0)) 0 == some .eq) && (FloatKind.f64.format.order (floatOfInt .f64 (b1 - a1)) 0 == some .gt))) := by
  rw [order_zero h0, order_zero h1]
  have hc : ∀ n : Int, compare n 0 = if n < 0 then .lt else if n = 0 then .eq else .gt := fun n => rfl
  rw [hc, hc]
  unfold lessB
  rcases Int.lt_trichotomy (b0 - a0) 0 with c | c | c
  · rw [if_pos c, decide_eq_false (by omega)]; rfl
  · rw [if_neg (by omega), if_pos c]
    rcases Int.lt_trichotomy (b1 - a1) 0 with d | d | d
    · rw [if_pos d, decide_eq_false (by omega)]; rfl
    · rw [if_neg (by omega), if_pos d, decide_eq_false (by omega)]; rfl
    · rw [if_neg (by omega), if_neg (by omega), decide_eq_true (by omega)]; rfl
  · rw [if_neg (by omega), if_neg (by omega), decide_eq_true (by omega)]; rfl
/-- what a call hands back, and nothing that lay turns -/
def Gives (f : Nat) (args : Array Value) (v : Value) : Prop := ∀ W, Calls Tryd.prog f args W fun e w' => e = .returned v ∧ Below W.heap.size W w'
set_option maxHeartbeats 8000000 in
set_option maxRecDepth 100000 in
theorem sums_f (a0 a1 b0 b1 : Int) (w : World) (hca : Gives 8 #[.agg #[.int .u64 a0, .int .u32 a1]] (.bool false)) (hpa : Gives 10 #[.agg #[.int .u64 a0, .int .u32 a1]] (.complex .f64 0 0)) :
    Calls Tryd.prog 4 #[.agg #[.int .u64 a0, .int .u32 a1], .agg #[.int .u64 b0, .int .u32 b1]] w fun e w' => e = .returned (.bool true) ∧ Below w.heap.size w w' := by
  have B2 := (Bk.new w a0 a1).step (below_alloc (Below.refl _ _) (.cells #[.int .u64 b0, .int .u32 b1] 25))
  have B3 := Bk.new (w.alloc (.cells #[.int .u64 a0, .int .u32 a1] 25)) b0 b1
  have hl := below_alloc (below_alloc (Below.refl w.heap.size w) (.cells #[.int .u64 a0, .int .u32 a1] 25)) (.cells #[.int .u64 b0, .int .u32 b1] 25)
  have hsz : (w.alloc (.cells #[.int .u64 a0, .int .u32 a1] 25)).heap.size = w.heap.size + 1 := by simp
  rw [hsz] at B3
  go_enter Tryd.func4, Tryd.ntmps4
  go_wp2_with (first
      | (go_at_call 7; refine (awk_calls _).mono ?_; rintro e W1 ⟨rfl, m1⟩; have D2 := B2.step m1; have D3 := B3.step m1; have n1 := below_step hl m1; have c0 := D2.c0; have c1 := D2.c1)
      | (go_at_call 8; refine (hca _).mono ?_; rintro e W2 ⟨rfl, m2⟩; have E2 := D2.step m2; have n2 := below_step n1 m2; have f0 := E2.c0; have f1 := E2.c1)
      | (go_at_call 10; refine (hpa _).mono ?_; rintro e W3 ⟨rfl, m3⟩; have n3 := below_step n2 m3))
  go_ret
  exact ⟨rfl, n3⟩
set_option maxHeartbeats 8000000 in
set_option maxRecDepth 100000 in
theorem sums_tf (a0 a1 b0 b1 : Int) (x y : Nat) (w : World) (hra : rightB a0 a1 = true) (hrb : rightB b0 b1 = false)
    (hpa : Gives 10 #[.agg #[.int .u64 a0, .int .u32 a1]] (.complex .f64 x y)) :
    Calls Tryd.prog 4 #[.agg #[.int .u64 a0, .int .u32 a1], .agg #[.int .u64 b0, .int .u32 b1]] w fun e w' => e = .returned (.bool true) ∧ Below w.heap.size w w' := by
  have B2 := (Bk.new w a0 a1).step (below_alloc (Below.refl _ _) (.cells #[.int .u64 b0, .int .u32 b1] 25))
  have B3 := Bk.new (w.alloc (.cells #[.int .u64 a0, .int .u32 a1] 25)) b0 b1
  have hl := below_alloc (below_alloc (Below.refl w.heap.size w) (.cells #[.int .u64 a0, .int .u32 a1] 25)) (.cells #[.int .u64 b0, .int .u32 b1] 25)
  have hsz : (w.alloc (.cells #[.int .u64 a0, .int .u32 a1] 25)).heap.size = w.heap.size + 1 := by simp
  rw [hsz] at B3
  clear hsz
  go_enter Tryd.func4, Tryd.ntmps4
  have hq : ∃ q, ∀ t w, (binOp .eql t (.complex .f64 x y) (.complex .f64 0 0)).run Tryd.prog w = .ok (.bool q) w := ⟨_, fun t w => run_eql_complex w t .f64 x y 0 0⟩
  obtain ⟨q, hq⟩ := hq
  cases q
  · go_wp2_with (first
      | (go_at_call 7; have D2 := B2; have D3 := B3; clear B2 B3; refine (awk_calls _).mono ?_; rintro e W1 ⟨rfl, m1⟩; replace D2 := D2.step m1; replace D3 := D3.step m1; have n1 := below_step hl m1; have c0 := D2.c0; have c1 := D2.c1)
      | (go_at_call 8; have E2 := D2; have E3 := D3; clear D2 D3; refine (right_calls _ _ _).mono ?_; rintro e W2 ⟨rfl, m2⟩; rw [hra]; replace E2 := E2.step m2; replace E3 := E3.step m2; have n2 := below_step n1 m2; have f0 := E3.c0; have f1 := E3.c1)
      | (go_at_call 8; have G2 := E2; have G3 := E3; clear E2 E3; refine (right_calls _ _ _).mono ?_; rintro e W3 ⟨rfl, m3⟩; rw [hrb]; replace G2 := G2.step m3; replace G3 := G3.step m3; have n3 := below_step n2 m3; have g0 := G2.c0; have g1 := G2.c1)
      | (go_at_call 10; refine (hpa _).mono ?_; rintro e W4 ⟨rfl, m4⟩; have K2 := G2.step m4; have n4 := below_step n3 m4; have k0 := K2.c0; have k1 := K2.c1; clear G2)
      | (go_at_call 8; refine (right_calls _ _ _).mono ?_; rintro e W5 ⟨rfl, m5⟩; rw [hra]; have n5 := below_step n4 m5))
    go_ret
    exact ⟨rfl, n5⟩
  · go_wp2_with (first
      | (go_at_call 7; have D2 := B2; have D3 := B3; clear B2 B3; refine (awk_calls _).mono ?_; rintro e W1 ⟨rfl, m1⟩; replace D2 := D2.step m1; replace D3 := D3.step m1; have n1 := below_step hl m1; have c0 := D2.c0; have c1 := D2.c1)
      | (go_at_call 8; have E2 := D2; have E3 := D3; clear D2 D3; refine (right_calls _ _ _).mono ?_; rintro e W2 ⟨rfl, m2⟩; rw [hra]; replace E2 := E2.step m2; replace E3 := E3.step m2; have n2 := below_step n1 m2; have f0 := E3.c0; have f1 := E3.c1)
      | (go_at_call 8; have G2 := E2; have G3 := E3; clear E2 E3; refine (right_calls _ _ _).mono ?_; rintro e W3 ⟨rfl, m3⟩; rw [hrb]; replace G2 := G2.step m3; replace G3 := G3.step m3; have n3 := below_step n2 m3; have g0 := G2.c0; have g1 := G2.c1)
      | (go_at_call 10; refine (hpa _).mono ?_; rintro e W4 ⟨rfl, m4⟩; have K2 := G2.step m4; have n4 := below_step n3 m4; have k0 := K2.c0; have k1 := K2.c1; clear G2))
    go_ret
    exact ⟨rfl, n4⟩
/-- both boxes lie, and nothing that lay has turned -/
def Sf (w : World) (a0 a1 b0 b1 : Int) (W' : World) : Prop := W'.cell? ⟨w.heap.size, 0, none⟩ = some (.int .u64 a0) ∧ W'.cell? ⟨w.heap.size, 1, none⟩ = some (.int .u32 a1) ∧ W'.cell? ⟨w.heap.size + 1, 0, none⟩ = some (.int .u64 b0) ∧ W'.cell? ⟨w.heap.size + 1, 1, none⟩ = some (.int .u32 b1) ∧ Hid (Below w.heap.size w W' ∧ Bk W' w.heap.size a0 a1 ∧ Bk W' (w.heap.size + 1) b0 b1)
theorem Sf.step {w W W' : World} {a0 a1 b0 b1 : Int} (h : Sf w a0 a1 b0 b1 W) (m : Below W.heap.size W W') : Sf w a0 a1 b0 b1 W' := by
  obtain ⟨_, _, _, _, h⟩ := h
  obtain ⟨h1, h2, h3⟩ := h.out
  exact ⟨(h2.step m).c0, (h2.step m).c1, (h3.step m).c0, (h3.step m).c1, Lib.hid ⟨below_step h1 m, h2.step m, h3.step m⟩⟩
set_option maxHeartbeats 8000000 in
set_option maxRecDepth 100000 in
theorem sums_tt (a0 a1 b0 b1 : Int) (x0 x1 y0 y1 z0 z1 : Nat) (w : World) (ha0 : 0 ≤ a0) (ha1 : a0 ≤ 281474976710656) (ha2 : 0 ≤ a1) (ha3 : a1 ≤ 4095) (hb0 : 0 ≤ b0) (hb1 : b0 ≤ 281474976710656) (hb2 : 0 ≤ b1) (hb3 : b1 ≤ 4095)
    (hra : rightB a0 a1 = true) (hrb : rightB b0 b1 = true)
    (hpa : ptV a0 a1 = .complex .f64 x0 x1) (hpb : ptV b0 b1 = .complex .f64 y0 y1)
    (hsub : ∀ t w, (binOp .sub t (.complex .f64 y0 y1) (.complex .f64 x0 x1)).run Tryd.prog w = .ok (.complex .f64 z0 z1) w)
    (hz0 : floatOfInt .f64 (b0 - a0) = z0) (hz1 : floatOfInt .f64 (b1 - a1) = z1)
    (ho0 : FloatKind.f64.format.order z0 z0 = some .eq) (ho1 : FloatKind.f64.format.order z1 z1 = some .eq)
    (hla : lessB a0 a1 b0 b1 = ((FloatKind.f64.format.order z0 0 == some .gt) || ((FloatKind.f64.format.order z0 0 == some .eq) && (FloatKind.f64.format.order z1 0 == some .gt)))) :
    Calls Tryd.prog 4 #[.agg #[.int .u64 a0, .int .u32 a1], .agg #[.int .u64 b0, .int .u32 b1]] w fun e w' => e = .returned (.bool true) ∧ Below w.heap.size w w' := by
  have B2 := (Bk.new w a0 a1).step (below_alloc (Below.refl _ _) (.cells #[.int .u64 b0, .int .u32 b1] 25))
  have B3 := Bk.new (w.alloc (.cells #[.int .u64 a0, .int .u32 a1] 25)) b0 b1
  have hl := below_alloc (below_alloc (Below.refl w.heap.size w) (.cells #[.int .u64 a0, .int .u32 a1] 25)) (.cells #[.int .u64 b0, .int .u32 b1] 25)
  have hsz : (w.alloc (.cells #[.int .u64 a0, .int .u32 a1] 25)).heap.size = w.heap.size + 1 := by simp
  rw [hsz] at B3
  clear hsz
  go_enter Tryd.func4, Tryd.ntmps4
  go_upto_region 5 with (first
      | (go_at_call 7; have D2 := B2; have D3 := B3; clear B2 B3; refine (awk_calls _).mono ?_; rintro e W1 ⟨rfl, m1⟩; replace D2 := D2.step m1; replace D3 := D3.step m1; have n1 := below_step hl m1; have c0 := D2.c0; have c1 := D2.c1)
      | (go_at_call 8; have E2 := D2; have E3 := D3; clear D2 D3; refine (right_calls _ _ _).mono ?_; rintro e W2 ⟨rfl, m2⟩; rw [hra]; replace E2 := E2.step m2; replace E3 := E3.step m2; have n2 := below_step n1 m2; have f0 := E3.c0; have f1 := E3.c1)
      | (go_at_call 8; have G2 := E2; have G3 := E3; clear E2 E3; refine (right_calls _ _ _).mono ?_; rintro e W3 ⟨rfl, m3⟩; rw [hrb]; replace G2 := G2.step m3; replace G3 := G3.step m3; have n3 := below_step n2 m3; have g0 := G2.c0; have g1 := G2.c1))
  have S0 : Sf w a0 a1 b0 b1 W3.drew := Sf.step ⟨g0, g1, G3.c0, G3.c1, Lib.hid ⟨n3, G2, G3⟩⟩ (below_drew1 (Below.refl _ _))
  clear n1 n2 n3 m1 m2 m3 c0 c1 f0 f1 hl g0 g1 G2 G3
  unfold Sf at S0
  go_region_held3 (fun W' => W'.cell? ⟨w.heap.size, 0, none⟩ = some (.int .u64 a0) ∧ W'.cell? ⟨w.heap.size, 1, none⟩ = some (.int .u32 a1) ∧ W'.cell? ⟨w.heap.size + 1, 0, none⟩ = some (.int .u64 b0) ∧ W'.cell? ⟨w.heap.size + 1, 1, none⟩ = some (.int .u32 b1) ∧ Hid (Below w.heap.size w W' ∧ Bk W' w.heap.size a0 a1 ∧ Bk W' (w.heap.size + 1) b0 b1))
    (first | exact S2 | exact S1 | exact S0)
    (first
    | (go_at_call 10; have T0 := S0; clear S0; refine (point_calls _ _ _).mono ?_; rintro e W4 ⟨rfl, m4⟩; rw [hpb]; have S1 := Sf.step T0 m4; unfold Sf at S1; clear T0 m4)
    | (go_at_call 10; have T1 := S1; clear S1; refine (point_calls _ _ _).mono ?_; rintro e W5 ⟨rfl, m5⟩; rw [hpa]; have S2 := Sf.step T1 m5; unfold Sf at S2; clear T1 m5)
    | (simp only [hsub]))
  have h9 := S2.2.2.2.2
  obtain ⟨d0, d1, d2, d3, _⟩ := S2
  go_wp2_with (first
    | (go_at_call 11; refine (less_calls _ _ _ _ _).mono ?_; rintro e W6 ⟨rfl, m6⟩; rw [hla]; have n6 := below_step h9.out.1 m6))
  all_goals (go_ret; exact ⟨by first | rfl | simp [*], n6⟩)
theorem dovecotelaw01_StampSums.calls (k : Nat) (a0 a1 b0 b1 : Int) (r : Bool) (w : World) (h : dovecotelaw01_StampSums.f k a0 a1 b0 b1 = some r) :
    Calls Tryd.prog 4 #[.agg #[.int .u64 a0, .int .u32 a1], .agg #[.int .u64 b0, .int .u32 b1]] w fun e w' => e = .returned (.bool r) ∧ Below w.heap.size w w' := by
  unfold dovecotelaw01_StampSums.f at h
  by_cases hin : inB a0 a1 b0 b1
  case neg => rw [if_neg hin] at h; cases h
  rw [if_pos hin] at h
  obtain rfl := Option.some.inj h
  obtain ⟨⟨p1, p2⟩, ⟨p3, p4⟩, ⟨p5, p6⟩, p7, p8⟩ := hin
  cases hra : rightB a0 a1
  · refine sums_f a0 a1 b0 b1 w (fun W => hra ▸ right_calls a0 a1 W) (fun W => ?_)
    have := point_calls a0 a1 W
    unfold ptV at this
    rw [hra] at this
    exact this
  · cases hrb : rightB b0 b1
    · refine sums_tf a0 a1 b0 b1 (floatOfInt .f64 a0) (floatOfInt .f64 a1) w hra hrb (fun W => ?_)
      have := point_calls a0 a1 W
      unfold ptV at this
      rw [hra] at this
      exact this
    · obtain ⟨q1, q2⟩ := (right_iff _ _).1 hra
      obtain ⟨q3, q4⟩ := (right_iff _ _).1 hrb
      have h0 : (b0 - a0).natAbs < 2 ^ 53 := by omega
      have h1 : (b1 - a1).natAbs < 2 ^ 53 := by omega
      exact sums_tt a0 a1 b0 b1 (floatOfInt .f64 a0) (floatOfInt .f64 a1) (floatOfInt .f64 b0) (floatOfInt .f64 b1) (floatOfInt .f64 (b0 - a0)) (floatOfInt .f64 (b1 - a1)) w
        p1 q1 p3 q2 p5 q3 p7 q4 hra hrb (by unfold ptV; rw [if_pos hra]) (by unfold ptV; rw [if_pos hrb])
        (fun t w => run_complex_sum w .sub (Or.inr rfl) t .f64 _ _ _ _ _ _ (csub p5 (by omega) p7 (by omega) p1 (by omega) p3 (by omega))) rfl rfl (order_same h0) (order_same h1) (ahead h0 h1)
end Go.Proofs.YthfaacheolhjnaaDoor.FSums
