/- The pure law of ClockTells: over numbers and lists alone. -/
import Derived.Test.YtgkpljlcdopalaaWalkClockTells
import Derived.Test.YtgkpljlcdopalaaTyClockTells
namespace Go.Proofs.Ytgkpljlcdopalaa.Pure
open Go.RowKit Go.Proofs.YtgkpljlcdopalaaW.PrintWords Go.Proofs.YtgkpljlcdopalaaW.PrintLast Go.Proofs.Ytgkpljlcdopalaa.PClockTells Go.Proofs.Ytgkpljlcdopalaa.Shapes Go.Proofs.Ytgkpljlcdopalaa.TyClockTells
set_option linter.unusedVariables false

def right (p l : Int) : Bool := decide (p ≤ 281474976710656) && decide (l ≤ 4095)
theorem right_eq (p l : Int) : stamp_Right.f p l = some (right p l) := by
  unfold stamp_Right.f right
  by_cases h : p ≤ 281474976710656 <;> simp [h]
theorem right_iff (p l : Int) : right p l = true ↔ p ≤ 281474976710656 ∧ l ≤ 4095 := by simp [right]
theorem wrap_u64 {n : Int} (h0 : 0 ≤ n) (h1 : n ≤ 18446744073709551615) : IntKind.u64.wrap n = n := by
  simp only [IntKind.wrap, IntKind.signed, IntKind.bits, Bool.false_and, Bool.false_eq_true, if_false]
  omega
theorem wrap_one {i : Int} {n : Int} (h0 : 0 ≤ i) (h1 : i < n) (hn : n ≤ 9223372036854775807) : wrap64 (i + 1) = i + 1 := by
  unfold wrap64
  omega

def next (p l : Int) : Int × Int × Int := if right p l = true then (if l < 4095 then (p, l + 1, 0) else if p < 281474976710656 then (p + 1, 0, 0) else (0, 0, 20)) else (0, 0, 1)
theorem next_eq {p l : Int} (hp : 0 ≤ p) (hl : 0 ≤ l) : stamp_Next.f p l = some (next p l) := by
  unfold stamp_Next.f next
  rw [right_eq, Option.bind_some]
  by_cases h : right p l = true
  · rw [if_pos h, if_pos h]
    obtain ⟨h1, h2⟩ := (right_iff p l).1 h
    have e : (l + 1) % 4294967296 = l + 1 := by omega
    rw [e]
    by_cases h3 : l < 4095
    · rw [if_neg (by omega), if_pos h3, right_eq, Option.bind_some, if_pos ((right_iff _ _).2 ⟨h1, by omega⟩)]
    · rw [if_pos (by omega), if_neg h3, wrap_u64 (by omega) (by omega), right_eq, Option.bind_some]
      by_cases h4 : p < 281474976710656
      · rw [if_pos ((right_iff _ _).2 ⟨by omega, by omega⟩), if_pos h4]
      · rw [if_neg (by rw [right_iff]; omega), if_neg h4]
  · rw [if_neg h, if_neg h]

def tick (p l x : Int) : Int × Int × Int := if (next p l).2.2 = 1 then (0, 0, 1) else if x > 281474976710656 then (0, 0, 20) else if x > p then (x, 0, 0) else next p l
theorem tick_eq {p l : Int} (hp : 0 ≤ p) (hl : 0 ≤ l) (x : Int) : clock_Tick.f p l x = some (tick p l x) := by
  unfold clock_Tick.f tick
  rw [next_eq hp hl, Option.bind_some]
  by_cases h : (next p l).2.2 = 1
  · rw [if_pos h, if_pos h, h]
  · rw [if_neg h, if_neg h]
    by_cases h1 : x > 281474976710656
    · rw [if_pos h1, if_pos h1]
    · rw [if_neg h1, if_neg h1]
      by_cases h2 : x > p
      · rw [if_pos h2, if_pos h2]
      · rw [if_neg h2, if_neg h2]
/-- A tick of a right stamp below the end, by a reading that is in range. -/
theorem tick_ok {p l x : Int} (hp : 0 ≤ p) (hp2 : p < 281474976710656) (hl : 0 ≤ l) (hl2 : l ≤ 4095) (hx : x ≤ 281474976710656) :
    tick p l x = if x > p then (x, 0, 0) else if l < 4095 then (p, l + 1, 0) else (p + 1, 0, 0) := by
  have hr := (right_iff p l).2 ⟨by omega, hl2⟩
  have hn : next p l = if l < 4095 then (p, l + 1, 0) else (p + 1, 0, 0) := by
    unfold next
    rw [if_pos hr]
    by_cases h : l < 4095
    · rw [if_pos h, if_pos h]
    · rw [if_neg h, if_neg h, if_pos hp2]
  have he : (next p l).2.2 = 0 := by
    rw [hn]
    split <;> rfl
  unfold tick
  rw [if_neg (by omega), if_neg (by omega), hn]

theorem or_eq (k : Nat) (hk : 3 ≤ k) (x y : Int) : cmp_Or_int.f k [x, y] = some (if x = 0 then y else x) := by
  obtain ⟨k, rfl⟩ : ∃ m, k = m + 3 := ⟨k - 3, by omega⟩
  have w1 : wrap64 (0 + 1) = 1 := by rw [wrap_one (n := 10) (by omega) (by omega) (by omega)]; rfl
  have w2 : wrap64 (1 + 1) = 2 := by rw [wrap_one (n := 10) (by omega) (by omega) (by omega)]; rfl
  have r0 : rd [x, y] 0 = x := rfl
  have r1 : rd [x, y] 1 = y := rfl
  have hl : (([x, y] : List Int).length : Int) = 2 := rfl
  unfold cmp_Or_int.f
  rw [hl]
  unfold cmp_Or_int.l0
  rw [if_pos (by omega), if_pos (by omega), hl, if_pos (by omega), r0, w1]
  by_cases h : x = 0
  · rw [if_pos h, if_pos h]
    unfold cmp_Or_int.l0
    rw [if_pos (by omega), if_pos (by omega), hl, if_pos (by omega), r1, w2]
    by_cases h' : y = 0
    · rw [if_pos h']
      unfold cmp_Or_int.l0
      rw [if_neg (by omega), h']
    · rw [if_neg h']
  · rw [if_neg h, if_neg h]
theorem cmp64_eq (a b : Int) : cmp_Compare_uint64.f a b = some (if a < b then -1 else if b < a then 1 else 0) := by
  unfold cmp_Compare_uint64.f cmp_isNaN_uint64.f
  simp only [bne_self_eq_false, Option.bind_some, Bool.false_eq_true, if_false]
  by_cases h : a < b
  · rw [if_pos h, if_pos h]
  · rw [if_neg h, if_neg h]
    by_cases h' : b < a
    · rw [if_pos h', if_pos h']
    · rw [if_neg h', if_neg h']
theorem cmp32_eq (a b : Int) : cmp_Compare_uint32.f a b = some (if a < b then -1 else if b < a then 1 else 0) := by
  unfold cmp_Compare_uint32.f cmp_isNaN_uint32.f
  simp only [bne_self_eq_false, Option.bind_some, Bool.false_eq_true, if_false]
  by_cases h : a < b
  · rw [if_pos h, if_pos h]
  · rw [if_neg h, if_neg h]
    by_cases h' : b < a
    · rw [if_pos h', if_pos h']
    · rw [if_neg h', if_neg h']
def less (a b c d : Int) : Bool := decide (a < c ∨ a = c ∧ b < d)
theorem less_eq {k : Nat} (hk : 3 ≤ k) (a b c d : Int) : stamp_Less.f k a b c d = some (less a b c d) := by
  unfold stamp_Less.f less
  rw [cmp64_eq, Option.bind_some, cmp32_eq, Option.bind_some, or_eq k hk, Option.bind_some]
  congr 1
  rw [decide_eq_decide]
  split <;> split <;> (try split) <;> (try split) <;> omega
theorem less_iff (a b c d : Int) : less a b c d = true ↔ (a < c ∨ a = c ∧ b < d) := by simp [less]

theorem rd_25 (x y : S25) : rd_T25 [x, y] 0 = x ∧ rd_T25 [x, y] 1 = y := ⟨rfl, rfl⟩
/-- The greatest of two, as the loop over them tells it. -/
def max2 (a b c d : Int) : Int × Int := if less a b c d = true then (c, d) else (a, b)
theorem max_eq {k : Nat} (hk : 8 ≤ k) {a b c d : Int} (ha : 0 ≤ a) (hb : 0 ≤ b) (hc : 0 ≤ c) (hd : 0 ≤ d) : stamp_Max.f k [⟨a, b⟩, ⟨c, d⟩] = some (max2 a b c d) := by
  obtain ⟨k, rfl⟩ : ∃ m, k = m + 3 := ⟨k - 3, by omega⟩
  have w1 : wrap64 (0 + 1) = 1 := by rw [wrap_one (n := 10) (by omega) (by omega) (by omega)]; rfl
  have w2 : wrap64 (1 + 1) = 2 := by rw [wrap_one (n := 10) (by omega) (by omega) (by omega)]; rfl
  obtain ⟨r0, r1⟩ := rd_25 ⟨a, b⟩ ⟨c, d⟩
  have hl : (([⟨a, b⟩, ⟨c, d⟩] : List S25).length : Int) = 2 := rfl
  have step : ∀ p l : Int, stamp_Max.l0 (k + 2) [⟨a, b⟩, ⟨c, d⟩] 2 1 p l = some (if less p l c d = true then (c, d) else (p, l)) := by
    intro p l
    unfold stamp_Max.l0
    rw [if_pos (by omega), if_pos (by omega), hl, if_pos (by omega), r1, w2, less_eq (by omega), Option.bind_some]
    by_cases h : less p l c d = true
    · rw [if_pos h, if_pos h]
      unfold stamp_Max.l0
      rw [if_neg (by omega)]
    · rw [if_neg h, if_neg h]
      unfold stamp_Max.l0
      rw [if_neg (by omega)]
  unfold stamp_Max.f
  rw [hl]
  unfold stamp_Max.l0
  rw [if_pos (by omega), if_pos (by omega), hl, if_pos (by omega), r0, w1, less_eq (by omega), Option.bind_some]
  by_cases h : less 0 0 a b = true
  · rw [if_pos h]
    exact step a b
  · rw [if_neg h, step]
    have e : a = 0 ∧ b = 0 := by
      rw [less_iff] at h
      omega
    rw [e.1, e.2]
    rfl
theorem mx_eq (a b : Int) : mx a b = if a < b then b else a := rfl
theorem ahead_eq {a b : Int} (hb0 : 0 ≤ b) (ha0 : 0 ≤ a) (ha : a ≤ 18446744073709551615) : clock_ahead.f a b = some (if b < a then a - b else 0) := by
  unfold clock_ahead.f
  rw [mx_eq]
  by_cases h : a < b
  · rw [if_pos h, if_neg (by omega), wrap_u64 (by omega) (by omega)]
    congr 1
    omega
  · rw [if_neg h, wrap_u64 (by omega) (by omega)]
    by_cases h' : b < a
    · rw [if_pos h']
    · rw [if_neg h']
      congr 1
      omega
def merge (a b x c d : Int) : Int × Int × Int := if right a b = true ∧ right c d = true then (if c - x > 1000 then (0, 0, 21) else ((max2 a b c d).1, (max2 a b c d).2, 0)) else (0, 0, 1)
theorem merge_eq {k : Nat} (hk : 10 ≤ k) {a b x c d : Int} (ha : 0 ≤ a) (hb : 0 ≤ b) (hc : 0 ≤ c) (hd : 0 ≤ d) (hx : 0 ≤ x) : clock_Merge.f k a b x c d = some (merge a b x c d) := by
  obtain ⟨k, rfl⟩ : ∃ m, k = m + 1 := ⟨k - 1, by omega⟩
  unfold clock_Merge.f merge
  rw [right_eq, Option.bind_some]
  by_cases h1 : right a b = true
  · rw [if_pos h1, right_eq, Option.bind_some]
    by_cases h2 : right c d = true
    · rw [if_pos ⟨h1, h2⟩, h2]
      have h2' := (right_iff c d).1 h2
      simp only [clock_Merge.j0, Bool.not_true, Bool.false_eq_true, if_false]
      rw [ahead_eq hx hc (by omega), Option.bind_some]
      by_cases h3 : c - x > 1000
      · have e : (if x < c then c - x else 0) > 1000 := by split <;> omega
        rw [if_pos h3, if_pos e]
      · have e : ¬ (if x < c then c - x else 0) > 1000 := by split <;> omega
        rw [if_neg h3, if_neg e, max_eq (by omega) ha hb hc hd, Option.bind_some]
    · rw [if_neg (by simp [h2])]
      simp only [clock_Merge.j0, h2, Bool.not_false, if_true]
  · rw [if_neg h1, if_neg (by simp [h1])]
    simp only [clock_Merge.j0, if_true]

theorem rright_eq (p l : Int) : dovecoteref01_Right.f p l = some (right p l) := by
  unfold dovecoteref01_Right.f right
  by_cases h : p ≤ 281474976710656 <;> simp [h]
theorem rless_eq (a b c d : Int) : dovecoteref01_Less.f a b c d = some (less a b c d) := by
  unfold dovecoteref01_Less.f less
  by_cases h : a < c
  · rw [if_pos h]
    congr 1
    exact (decide_eq_true (.inl h)).symm
  · rw [if_neg h]
    by_cases h' : a = c
    · rw [if_pos h']
      congr 1
      rw [decide_eq_decide]
      omega
    · rw [if_neg h']
      congr 1
      exact (decide_eq_false (by omega)).symm
theorem rmax_eq (a b c d : Int) : dovecoteref01_Max.f a b c d = some (max2 a b c d) := by
  unfold dovecoteref01_Max.f max2
  rw [rless_eq, Option.bind_some]
  split <;> rfl

theorem awake_eq : dovecotelaw06_awake.f = some true := by
  unfold dovecotelaw06_awake.f
  rw [tick_eq (by omega) (by omega), Option.bind_some, tick_eq (by omega) (by omega), Option.bind_some]
  decide
theorem rnext_eq {p l : Int} (hp : 0 ≤ p) (hl : 0 ≤ l) : dovecoteref01_Next.f p l = some (next p l) := by
  unfold dovecoteref01_Next.f next
  rw [rright_eq, Option.bind_some]
  by_cases h : right p l = true
  · rw [if_pos h, if_pos h]
    obtain ⟨h1, h2⟩ := (right_iff p l).1 h
    by_cases h3 : l < 4095
    · rw [if_pos h3, if_pos h3]
      have e : (l + 1) % 4294967296 = l + 1 := by omega
      rw [e]
    · rw [if_neg h3, if_neg h3]
      by_cases h4 : p = 281474976710656
      · rw [if_pos h4, if_neg (by omega)]
      · rw [if_neg h4, if_pos (by omega), wrap_u64 (by omega) (by omega)]
  · rw [if_neg h, if_neg h]
theorem rtick_eq {p l : Int} (hp : 0 ≤ p) (hl : 0 ≤ l) (x : Int) : dovecoteref06_Tick.f p l x = some (tick p l x) := by
  unfold dovecoteref06_Tick.f tick
  rw [rright_eq, Option.bind_some]
  by_cases h : right p l = true
  · have hn : (next p l).2.2 ≠ 1 := by
      unfold next
      rw [if_pos h]
      split
      · exact (by decide : (0 : Int) ≠ 1)
      · split
        · exact (by decide : (0 : Int) ≠ 1)
        · exact (by decide : (20 : Int) ≠ 1)
    rw [if_pos h, if_neg hn, rnext_eq hp hl, Option.bind_some]
    by_cases h1 : x > 281474976710656
    · rw [if_pos h1, if_pos h1]
    · rw [if_neg h1, if_neg h1]
      by_cases h2 : x > p
      · rw [if_pos h2, if_pos h2]
      · rw [if_neg h2, if_neg h2]
  · have hn : (next p l).2.2 = 1 := by
      unfold next
      rw [if_neg h]
    rw [if_neg h, if_pos hn]
theorem rmerge_eq {k : Nat} (hk : 2 ≤ k) {a b x c d : Int} (hc : 0 ≤ c) (hc2 : c ≤ 18446744073709551615) (hx : 0 ≤ x) : dovecoteref06_Merge.f k a b x c d = some (merge a b x c d) := by
  obtain ⟨k, rfl⟩ : ∃ m, k = m + 1 := ⟨k - 1, by omega⟩
  unfold dovecoteref06_Merge.f merge
  rw [rright_eq, Option.bind_some]
  by_cases h1 : right a b = true
  · rw [if_pos h1, rright_eq, Option.bind_some]
    by_cases h2 : right c d = true
    · rw [if_pos ⟨h1, h2⟩, h2]
      simp only [dovecoteref06_Merge.j0, Bool.not_true, Bool.false_eq_true, if_false]
      rw [rmax_eq, Option.bind_some]
      by_cases h3 : c > x
      · rw [if_pos h3, wrap_u64 (by omega) (by omega)]
        by_cases h4 : c - x > 1000
        · rw [if_pos h4, if_pos h4]
        · rw [if_neg h4, if_neg h4]
      · rw [if_neg h3, if_neg (by omega)]
    · rw [if_neg (by simp [h2])]
      simp only [dovecoteref06_Merge.j0, h2, Bool.not_false, if_true]
  · rw [if_neg h1, if_neg (by simp [h1])]
    simp only [dovecoteref06_Merge.j0, if_true]
def bound (p l : Int) : Int × Int := if right p l = true then (mn (p + 64) 281474976710656, 4095) else (0, 0)
theorem bound_eq {p l : Int} (hp : 0 ≤ p) : clock_Bound.f p l = some (bound p l) := by
  unfold clock_Bound.f bound
  rw [right_eq, Option.bind_some]
  by_cases h : right p l = true
  · obtain ⟨h1, h2⟩ := (right_iff p l).1 h
    rw [if_pos h, if_pos h, wrap_u64 (by omega) (by omega)]
  · rw [if_neg h, if_neg h]
theorem rbound_eq {p l : Int} (hp : 0 ≤ p) : dovecoteref06_Bound.f p l = some (bound p l) := by
  unfold dovecoteref06_Bound.f bound
  rw [rright_eq, Option.bind_some]
  by_cases h : right p l = true
  · obtain ⟨h1, h2⟩ := (right_iff p l).1 h
    rw [if_pos h, if_pos h, wrap_u64 (by omega) (by omega)]
    unfold mn
    by_cases h3 : p + 64 > 281474976710656
    · rw [if_pos h3, if_pos (by omega)]
    · rw [if_neg h3, if_neg (by omega)]
  · rw [if_neg h, if_neg h]
theorem late_eq {a0 a1 b0 b1 : Int} (h0 : 0 ≤ a0) (h1 : 0 ≤ b0) (h2 : b0 ≤ 18446744073709551615) : clock_Late.f a0 a1 b0 b1 = some (decide (b0 - a0 > 100)) := by
  unfold clock_Late.f
  rw [ahead_eq h0 h1 h2, Option.bind_some]
  congr 1
  rw [decide_eq_decide]
  split <;> omega
theorem rlate_eq {a0 a1 b0 b1 : Int} (h0 : 0 ≤ a0) (h1 : 0 ≤ b0) (h2 : b0 ≤ 18446744073709551615) : dovecoteref06_Late.f a0 a1 b0 b1 = some (decide (b0 - a0 > 100)) := by
  unfold dovecoteref06_Late.f
  by_cases h : b0 > a0
  · rw [if_pos h, wrap_u64 (by omega) (by omega)]
  · rw [if_neg h]
    congr 1
    exact (decide_eq_false (by omega)).symm

theorem ClockTells : ∀ (a0_0 a0_1 : Int) (a1 : Int) (a2_0 a2_1 : Int), ok25 ⟨a0_0, a0_1⟩ → (inU64 a1) → ok25 ⟨a2_0, a2_1⟩ → ∃ k, dovecotelaw06_ClockTells.f k a0_0 a0_1 a1 a2_0 a2_1 = some true := by
  intro p l x c d hpl hx hcd
  have hp : 0 ≤ p := hpl.1.1
  have hp2 : p ≤ 18446744073709551615 := hpl.1.2
  have hl : 0 ≤ l := hpl.2.1
  have hc : 0 ≤ c := hcd.1.1
  have hc2 : c ≤ 18446744073709551615 := hcd.1.2
  have hd : 0 ≤ d := hcd.2.1
  have hx0 : 0 ≤ x := hx.1
  obtain ⟨K, hK⟩ : ∃ K, K = 20 := ⟨_, rfl⟩
  refine ⟨K, ?_⟩
  unfold dovecotelaw06_ClockTells.f
  rw [awake_eq, Option.bind_some, if_pos rfl, tick_eq hp hl, Option.bind_some, rtick_eq hp hl, Option.bind_some, merge_eq (by omega) hp hl hc hd hx0, Option.bind_some, rmerge_eq (by omega) hc hc2 hx0, Option.bind_some]
  rw [if_pos (by simp), if_pos rfl, if_pos (by simp), if_pos rfl, bound_eq hc, Option.bind_some, rbound_eq hc, Option.bind_some, if_pos (by simp), late_eq hc hp hp2, Option.bind_some, rlate_eq hc hp hp2, Option.bind_some]
  simp

end Go.Proofs.Ytgkpljlcdopalaa.Pure
