/- The pure law of ClockBounds: over numbers and lists alone. -/
import Derived.Test.YtgkpljlcdopalaaPClockBoundsx3
import Derived.Test.YtgkpljlcdopalaaTyClockBounds
namespace Go.Proofs.Ytgkpljlcdopalaa.Pure
open Go.RowKit Go.Proofs.YtgkpljlcdopalaaW.PrintWords Go.Proofs.YtgkpljlcdopalaaW.PrintLast Go.Proofs.Ytgkpljlcdopalaa.PClockBounds Go.Proofs.Ytgkpljlcdopalaa.Shapes Go.Proofs.Ytgkpljlcdopalaa.TyClockBounds
set_option linter.unusedVariables false

def right (p l : Int) : Bool := decide (p ≤ 281474976710656) && decide (l ≤ 4095)
theorem right_eq (p l : Int) : stamp_Right.f p l = some (right p l) := by
  unfold stamp_Right.f right
  by_cases h : p ≤ 281474976710656 <;> simp [h]
theorem right_iff (p l : Int) : right p l = true ↔ p ≤ 281474976710656 ∧ l ≤ 4095 := by simp [right]
theorem wrap_u64 {n : Int} (h0 : 0 ≤ n) (h1 : n ≤ 18446744073709551615) : IntKind.u64.wrap n = n := by
  simp only [IntKind.wrap, IntKind.signed, IntKind.bits, Bool.false_and, Bool.false_eq_true, if_false]
  omega
theorem wrap_one {i : Int} {n : Int} (h0 : 0 ≤ i) (h1 : i < n) (hn : n ≤ 9223372036854775807) : wrap64 (i + 1) = i + 1 := by
  unfold wrap64
  omega

def next (p l : Int) : Int × Int × Int := if right p l = true then (if l < 4095 then (p, l + 1, 0) else if p < 281474976710656 then (p + 1, 0, 0) else (0, 0, 20)) else (0, 0, 1)
theorem next_eq {p l : Int} (hp : 0 ≤ p) (hl : 0 ≤ l) : stamp_Next.f p l = some (next p l) := by
  unfold stamp_Next.f next
  rw [right_eq, Option.bind_some]
  by_cases h : right p l = true
  · rw [if_pos h, if_pos h]
    obtain ⟨h1, h2⟩ := (right_iff p l).1 h
    have e : (l + 1) % 4294967296 = l + 1 := by omega
    rw [e]
    by_cases h3 : l < 4095
    · rw [if_neg (by omega), if_pos h3, right_eq, Option.bind_some, if_pos ((right_iff _ _).2 ⟨h1, by omega⟩)]
    · rw [if_pos (by omega), if_neg h3, wrap_u64 (by omega) (by omega), right_eq, Option.bind_some]
      by_cases h4 : p < 281474976710656
      · rw [if_pos ((right_iff _ _).2 ⟨by omega, by omega⟩), if_pos h4]
      · rw [if_neg (by rw [right_iff]; omega), if_neg h4]
  · rw [if_neg h, if_neg h]

def tick (p l x : Int) : Int × Int × Int := if (next p l).2.2 = 1 then (0, 0, 1) else if x > 281474976710656 then (0, 0, 20) else if x > p then (x, 0, 0) else next p l
theorem tick_eq {p l : Int} (hp : 0 ≤ p) (hl : 0 ≤ l) (x : Int) : clock_Tick.f p l x = some (tick p l x) := by
  unfold clock_Tick.f tick
  rw [next_eq hp hl, Option.bind_some]
  by_cases h : (next p l).2.2 = 1
  · rw [if_pos h, if_pos h, h]
  · rw [if_neg h, if_neg h]
    by_cases h1 : x > 281474976710656
    · rw [if_pos h1, if_pos h1]
    · rw [if_neg h1, if_neg h1]
      by_cases h2 : x > p
      · rw [if_pos h2, if_pos h2]
      · rw [if_neg h2, if_neg h2]
/-- A tick of a right stamp below the end, by a reading that is in range. -/
theorem tick_ok {p l x : Int} (hp : 0 ≤ p) (hp2 : p < 281474976710656) (hl : 0 ≤ l) (hl2 : l ≤ 4095) (hx : x ≤ 281474976710656) :
    tick p l x = if x > p then (x, 0, 0) else if l < 4095 then (p, l + 1, 0) else (p + 1, 0, 0) := by
  have hr := (right_iff p l).2 ⟨by omega, hl2⟩
  have hn : next p l = if l < 4095 then (p, l + 1, 0) else (p + 1, 0, 0) := by
    unfold next
    rw [if_pos hr]
    by_cases h : l < 4095
    · rw [if_pos h, if_pos h]
    · rw [if_neg h, if_neg h, if_pos hp2]
  have he : (next p l).2.2 = 0 := by
    rw [hn]
    split <;> rfl
  unfold tick
  rw [if_neg (by omega), if_neg (by omega), hn]

theorem or_eq (k : Nat) (hk : 3 ≤ k) (x y : Int) : cmp_Or_int.f k [x, y] = some (if x = 0 then y else x) := by
  obtain ⟨k, rfl⟩ : ∃ m, k = m + 3 := ⟨k - 3, by omega⟩
  have w1 : wrap64 (0 + 1) = 1 := by rw [wrap_one (n := 10) (by omega) (by omega) (by omega)]; rfl
  have w2 : wrap64 (1 + 1) = 2 := by rw [wrap_one (n := 10) (by omega) (by omega) (by omega)]; rfl
  have r0 : rd [x, y] 0 = x := rfl
  have r1 : rd [x, y] 1 = y := rfl
  have hl : (([x, y] : List Int).length : Int) = 2 := rfl
  unfold cmp_Or_int.f
  rw [hl]
  unfold cmp_Or_int.l0
  rw [if_pos (by omega), if_pos (by omega), hl, if_pos (by omega), r0, w1]
  by_cases h : x = 0
  · rw [if_pos h, if_pos h]
    unfold cmp_Or_int.l0
    rw [if_pos (by omega), if_pos (by omega), hl, if_pos (by omega), r1, w2]
    by_cases h' : y = 0
    · rw [if_pos h']
      unfold cmp_Or_int.l0
      rw [if_neg (by omega), h']
    · rw [if_neg h']
  · rw [if_neg h, if_neg h]
theorem cmp64_eq (a b : Int) : cmp_Compare_uint64.f a b = some (if a < b then -1 else if b < a then 1 else 0) := by
  unfold cmp_Compare_uint64.f cmp_isNaN_uint64.f
  simp only [bne_self_eq_false, Option.bind_some, Bool.false_eq_true, if_false]
  by_cases h : a < b
  · rw [if_pos h, if_pos h]
  · rw [if_neg h, if_neg h]
    by_cases h' : b < a
    · rw [if_pos h', if_pos h']
    · rw [if_neg h', if_neg h']
theorem cmp32_eq (a b : Int) : cmp_Compare_uint32.f a b = some (if a < b then -1 else if b < a then 1 else 0) := by
  unfold cmp_Compare_uint32.f cmp_isNaN_uint32.f
  simp only [bne_self_eq_false, Option.bind_some, Bool.false_eq_true, if_false]
  by_cases h : a < b
  · rw [if_pos h, if_pos h]
  · rw [if_neg h, if_neg h]
    by_cases h' : b < a
    · rw [if_pos h', if_pos h']
    · rw [if_neg h', if_neg h']
def less (a b c d : Int) : Bool := decide (a < c ∨ a = c ∧ b < d)
theorem less_eq {k : Nat} (hk : 3 ≤ k) (a b c d : Int) : stamp_Less.f k a b c d = some (less a b c d) := by
  unfold stamp_Less.f less
  rw [cmp64_eq, Option.bind_some, cmp32_eq, Option.bind_some, or_eq k hk, Option.bind_some]
  congr 1
  rw [decide_eq_decide]
  split <;> split <;> (try split) <;> (try split) <;> omega
theorem less_iff (a b c d : Int) : less a b c d = true ↔ (a < c ∨ a = c ∧ b < d) := by simp [less]

theorem awake_eq : dovecotelaw06_awake.f = some true := by
  unfold dovecotelaw06_awake.f
  rw [tick_eq (by omega) (by omega), Option.bind_some, tick_eq (by omega) (by omega), Option.bind_some]
  decide
theorem mx_eq (a b : Int) : mx a b = if a < b then b else a := rfl
theorem late_eq {a0 a1 b0 b1 : Int} (h0 : 0 ≤ a0) (h1 : 0 ≤ b0) (h2 : b0 ≤ 18446744073709551615) : clock_Late.f a0 a1 b0 b1 = some (decide (b0 - a0 > 100)) := by
  unfold clock_Late.f clock_ahead.f
  rw [Option.bind_some, mx_eq]
  congr 1
  rw [decide_eq_decide]
  split
  · rw [wrap_u64 (by omega) (by omega)]
    omega
  · rw [wrap_u64 (by omega) (by omega)]
theorem bound_eq {p l : Int} (hp : 0 ≤ p) (hp2 : p ≤ 140737488355328) (hl : l ≤ 4095) : clock_Bound.f p l = some (p + 64, 4095) := by
  unfold clock_Bound.f
  rw [right_eq, Option.bind_some, if_pos ((right_iff p l).2 ⟨by omega, hl⟩)]
  rw [wrap_u64 (by omega) (by omega)]
  unfold mn
  rw [if_neg (by omega)]
theorem tmod_le (x : Int) (h : 0 ≤ x) : 0 ≤ x.tmod 64 ∧ x.tmod 64 ≤ 63 := by
  rw [Int.tmod_eq_emod_of_nonneg h]
  omega
theorem rd_ok (l : List Int) (h : ∀ a ∈ l, inU64 a) (i : Int) (h0 : 0 ≤ i) (h1 : i < l.length) : 0 ≤ rd l i := by
  unfold rd
  rw [List.getD_eq_getElem?_getD, List.getElem?_eq_getElem (by omega), Option.getD_some]
  exact (h _ (List.getElem_mem _)).1
theorem bounds (p l : Int) (hp : 0 ≤ p) (hp2 : p ≤ 140737488355328) (hl : 0 ≤ l) (hl2 : l ≤ 4095) (xs : List Int) (hxs : ∀ a ∈ xs, inU64 a) (hn : xs.length ≤ 100) (d : Nat) :
    ∀ (k : Nat) (i tp tl : Int), 0 ≤ i → i ≤ xs.length → (xs.length : Int) - i = d → d + 3 < k → 0 ≤ tp → 0 ≤ tl → tl ≤ 4095 → tp * 4096 + tl ≤ (p + 63) * 4096 + i →
    dovecotelaw06_ClockBounds.l0 k xs xs.length i p l (p + 64) 4095 tp tl = some true := by
  induction d with
  | zero =>
    intro k i tp tl h0 h1 hd hk htp htl htl2 hv
    obtain ⟨k, rfl⟩ : ∃ m, k = m + 1 := ⟨k - 1, by omega⟩
    unfold dovecotelaw06_ClockBounds.l0
    rw [if_neg (by omega), late_eq hp (by omega) (by omega), Option.bind_some, if_neg (by simp; omega), wrap_u64 (by omega) (by omega), late_eq hp (by omega) (by omega), Option.bind_some]
    congr 1
    exact decide_eq_true (by omega)
  | succ d ih =>
    intro k i tp tl h0 h1 hd hk htp htl htl2 hv
    obtain ⟨k, rfl⟩ : ∃ m, k = m + 1 := ⟨k - 1, by omega⟩
    unfold dovecotelaw06_ClockBounds.l0
    have hr := tmod_le _ (rd_ok xs hxs i h0 (by omega))
    have hw : wrap64 (i + 1) = i + 1 := wrap_one (n := 1000) h0 (by omega) (by omega)
    rw [if_pos (by omega), if_pos (by omega), if_pos (by omega), wrap_u64 (by omega) (by omega), tick_eq htp htl, Option.bind_some, tick_ok htp (by omega) htl htl2 (by omega), hw]
    by_cases c1 : p + (rd xs i).tmod 64 > tp
    · rw [if_pos c1]
      simp only [if_true]
      rw [less_eq (by omega), Option.bind_some, if_neg (by rw [less_iff]; omega), less_eq (by omega), Option.bind_some, if_pos (by rw [less_iff]; omega)]
      exact ih k (i + 1) _ 0 (by omega) (by omega) (by omega) (by omega) (by omega) (by omega) (by omega) (by omega)
    · rw [if_neg c1]
      by_cases c2 : tl < 4095
      · rw [if_pos c2]
        simp only [if_true]
        rw [less_eq (by omega), Option.bind_some, if_neg (by rw [less_iff]; omega), less_eq (by omega), Option.bind_some, if_pos (by rw [less_iff]; omega)]
        exact ih k (i + 1) _ _ (by omega) (by omega) (by omega) (by omega) (by omega) (by omega) (by omega) (by omega)
      · rw [if_neg c2]
        simp only [if_true]
        rw [less_eq (by omega), Option.bind_some, if_neg (by rw [less_iff]; omega), less_eq (by omega), Option.bind_some, if_pos (by rw [less_iff]; omega)]
        exact ih k (i + 1) _ _ (by omega) (by omega) (by omega) (by omega) (by omega) (by omega) (by omega) (by omega)

theorem ClockBounds : ∀ (a0_0 a0_1 : Int) (l1 : List Int), ok25 ⟨a0_0, a0_1⟩ → l1.length * Try.prog.bytesOf 22 ≤ 140737488351232 → (∀ a ∈ l1, inU64 a) → ∃ k, dovecotelaw06_ClockBounds.f k a0_0 a0_1 l1 = some true := by
  intro p l xs hpl hlen hxs
  obtain ⟨⟨hp, _⟩, hl, _⟩ := hpl
  have hp : 0 ≤ p := hp
  have hl : 0 ≤ l := hl
  obtain ⟨K, hK⟩ : ∃ K, K = 200 := ⟨_, rfl⟩
  refine ⟨K + 1, ?_⟩
  unfold dovecotelaw06_ClockBounds.f
  rw [awake_eq, Option.bind_some, if_pos rfl, right_eq, Option.bind_some]
  have yes : ∀ b : Bool, b = true → dovecotelaw06_ClockBounds.j0 (K + 1) xs b p l = some true := by
    intro b hb
    simp only [dovecotelaw06_ClockBounds.j0]
    rw [if_pos hb]
  by_cases hr : right p l = true
  · obtain ⟨h1, h2⟩ := (right_iff p l).1 hr
    rw [if_pos hr]
    by_cases c1 : p > 140737488355328
    · rw [if_pos c1]; exact yes _ rfl
    rw [if_neg c1]
    by_cases c4 : (xs.length : Int) > 100
    · exact yes _ (by simpa using c4)
    · simp only [dovecotelaw06_ClockBounds.j0]
      rw [if_neg (by simpa using c4), bound_eq hp (by omega) h2, Option.bind_some]
      exact bounds p l hp (by omega) hl h2 xs hxs (by omega) xs.length K 0 p l (by omega) (by omega) (by omega) (by omega) hp hl h2 (by omega)
  · rw [if_neg hr]; exact yes _ rfl

end Go.Proofs.Ytgkpljlcdopalaa.Pure
