/- The pure law of ClockCounts: over numbers and lists alone. -/
import Derived.Test.YtgkpljlcdopalaaPClockCountsx2
import Derived.Test.YtgkpljlcdopalaaTyClockCounts
namespace Go.Proofs.Ytgkpljlcdopalaa.Pure
open Go.RowKit Go.Proofs.YtgkpljlcdopalaaW.PrintWords Go.Proofs.YtgkpljlcdopalaaW.PrintLast Go.Proofs.Ytgkpljlcdopalaa.PClockCounts Go.Proofs.Ytgkpljlcdopalaa.Shapes Go.Proofs.Ytgkpljlcdopalaa.TyClockCounts
set_option linter.unusedVariables false

def right (p l : Int) : Bool := decide (p ≤ 281474976710656) && decide (l ≤ 4095)
theorem right_eq (p l : Int) : stamp_Right.f p l = some (right p l) := by
  unfold stamp_Right.f right
  by_cases h : p ≤ 281474976710656 <;> simp [h]
theorem right_iff (p l : Int) : right p l = true ↔ p ≤ 281474976710656 ∧ l ≤ 4095 := by simp [right]
theorem wrap_u64 {n : Int} (h0 : 0 ≤ n) (h1 : n ≤ 18446744073709551615) : IntKind.u64.wrap n = n := by
  simp only [IntKind.wrap, IntKind.signed, IntKind.bits, Bool.false_and, Bool.false_eq_true, if_false]
  omega
theorem wrap_one {i : Int} {n : Int} (h0 : 0 ≤ i) (h1 : i < n) (hn : n ≤ 9223372036854775807) : wrap64 (i + 1) = i + 1 := by
  unfold wrap64
  omega

def next (p l : Int) : Int × Int × Int := if right p l = true then (if l < 4095 then (p, l + 1, 0) else if p < 281474976710656 then (p + 1, 0, 0) else (0, 0, 20)) else (0, 0, 1)
theorem next_eq {p l : Int} (hp : 0 ≤ p) (hl : 0 ≤ l) : stamp_Next.f p l = some (next p l) := by
  unfold stamp_Next.f next
  rw [right_eq, Option.bind_some]
  by_cases h : right p l = true
  · rw [if_pos h, if_pos h]
    obtain ⟨h1, h2⟩ := (right_iff p l).1 h
    have e : (l + 1) % 4294967296 = l + 1 := by omega
    rw [e]
    by_cases h3 : l < 4095
    · rw [if_neg (by omega), if_pos h3, right_eq, Option.bind_some, if_pos ((right_iff _ _).2 ⟨h1, by omega⟩)]
    · rw [if_pos (by omega), if_neg h3, wrap_u64 (by omega) (by omega), right_eq, Option.bind_some]
      by_cases h4 : p < 281474976710656
      · rw [if_pos ((right_iff _ _).2 ⟨by omega, by omega⟩), if_pos h4]
      · rw [if_neg (by rw [right_iff]; omega), if_neg h4]
  · rw [if_neg h, if_neg h]

def tick (p l x : Int) : Int × Int × Int := if (next p l).2.2 = 1 then (0, 0, 1) else if x > 281474976710656 then (0, 0, 20) else if x > p then (x, 0, 0) else next p l
theorem tick_eq {p l : Int} (hp : 0 ≤ p) (hl : 0 ≤ l) (x : Int) : clock_Tick.f p l x = some (tick p l x) := by
  unfold clock_Tick.f tick
  rw [next_eq hp hl, Option.bind_some]
  by_cases h : (next p l).2.2 = 1
  · rw [if_pos h, if_pos h, h]
  · rw [if_neg h, if_neg h]
    by_cases h1 : x > 281474976710656
    · rw [if_pos h1, if_pos h1]
    · rw [if_neg h1, if_neg h1]
      by_cases h2 : x > p
      · rw [if_pos h2, if_pos h2]
      · rw [if_neg h2, if_neg h2]
/-- A tick of a right stamp below the end, by a reading that is in range. -/
theorem tick_ok {p l x : Int} (hp : 0 ≤ p) (hp2 : p < 281474976710656) (hl : 0 ≤ l) (hl2 : l ≤ 4095) (hx : x ≤ 281474976710656) :
    tick p l x = if x > p then (x, 0, 0) else if l < 4095 then (p, l + 1, 0) else (p + 1, 0, 0) := by
  have hr := (right_iff p l).2 ⟨by omega, hl2⟩
  have hn : next p l = if l < 4095 then (p, l + 1, 0) else (p + 1, 0, 0) := by
    unfold next
    rw [if_pos hr]
    by_cases h : l < 4095
    · rw [if_pos h, if_pos h]
    · rw [if_neg h, if_neg h, if_pos hp2]
  have he : (next p l).2.2 = 0 := by
    rw [hn]
    split <;> rfl
  unfold tick
  rw [if_neg (by omega), if_neg (by omega), hn]

theorem awake_eq : dovecotelaw06_awake.f = some true := by
  unfold dovecotelaw06_awake.f
  rw [tick_eq (by omega) (by omega), Option.bind_some, tick_eq (by omega) (by omega), Option.bind_some]
  decide
theorem counts (x n : Int) (hn : n ≤ 5000) (d : Nat) : ∀ (k : Nat) (i p l : Int), 0 ≤ i → i ≤ n → n - i = d → d < k → 0 ≤ p → x ≤ p → 0 ≤ l → l ≤ 4095 → p * 4096 + l + d < 1152921504606846976 →
    dovecotelaw06_ClockCounts.l0 k x n i p l = some true := by
  induction d with
  | zero =>
    intro k i p l h0 h1 hd hk hp hx hl hl2 hv
    obtain ⟨k, rfl⟩ : ∃ m, k = m + 1 := ⟨k - 1, by omega⟩
    unfold dovecotelaw06_ClockCounts.l0
    rw [if_neg (by omega)]
  | succ d ih =>
    intro k i p l h0 h1 hd hk hp hx hl hl2 hv
    obtain ⟨k, rfl⟩ : ∃ m, k = m + 1 := ⟨k - 1, by omega⟩
    unfold dovecotelaw06_ClockCounts.l0
    have hp2 : p < 281474976710656 := by omega
    have hr := (right_iff p l).2 ⟨by omega, hl2⟩
    have ht : tick p l x = next p l := by
      rw [tick_ok hp hp2 hl hl2 (by omega), if_neg (by omega)]
      unfold next
      rw [if_pos hr]
      by_cases h : l < 4095
      · rw [if_pos h, if_pos h]
      · rw [if_neg h, if_neg h, if_pos hp2]
    rw [if_pos (by omega), tick_eq hp hl, Option.bind_some, next_eq hp hl, Option.bind_some, ht]
    have hw : wrap64 (i + 1) = i + 1 := wrap_one (n := 5000) h0 (by omega) (by omega)
    by_cases h : l < 4095
    · have hnx : next p l = (p, l + 1, 0) := by unfold next; rw [if_pos hr, if_pos h]
      rw [hnx]
      simp only [if_true, beq_self_eq_true, Bool.not_true, Bool.or_false, Bool.false_eq_true, if_false]
      rw [hw]
      exact ih k (i + 1) p (l + 1) (by omega) (by omega) (by omega) (by omega) hp hx (by omega) (by omega) (by omega)
    · have hnx : next p l = (p + 1, 0, 0) := by unfold next; rw [if_pos hr, if_neg h, if_pos hp2]
      rw [hnx]
      simp only [if_true, beq_self_eq_true, Bool.not_true, Bool.or_false, Bool.false_eq_true, if_false]
      rw [hw]
      exact ih k (i + 1) (p + 1) 0 (by omega) (by omega) (by omega) (by omega) (by omega) (by omega) (by omega) (by omega) (by omega)

theorem ClockCounts : ∀ (a0_0 a0_1 : Int) (a1 : Int) (a2 : Int), ok25 ⟨a0_0, a0_1⟩ → (inU64 a1) → (inI64 a2) → ∃ k, dovecotelaw06_ClockCounts.f k a0_0 a0_1 a1 a2 = some true := by
  intro p l x n hpl hx hn
  obtain ⟨⟨hp, _⟩, hl, _⟩ := hpl
  have hp : 0 ≤ p := hp
  have hl : 0 ≤ l := hl
  obtain ⟨K, hK⟩ : ∃ K, K = 5002 := ⟨_, rfl⟩
  refine ⟨K + 1, ?_⟩
  unfold dovecotelaw06_ClockCounts.f
  rw [awake_eq, Option.bind_some, if_pos rfl, right_eq, Option.bind_some]
  have yes : ∀ b : Bool, b = true → dovecotelaw06_ClockCounts.j0 (K + 1) x n b p l = some true := by
    intro b hb
    simp only [dovecotelaw06_ClockCounts.j0]
    rw [if_pos hb]
  by_cases hr : right p l = true
  · obtain ⟨h1, h2⟩ := (right_iff p l).1 hr
    rw [if_pos hr]
    by_cases c1 : p > 140737488355328
    · rw [if_pos c1]; exact yes _ rfl
    rw [if_neg c1]
    by_cases c2 : x > p
    · rw [if_pos c2]; exact yes _ rfl
    rw [if_neg c2]
    by_cases c3 : n < 0
    · rw [if_pos c3]; exact yes _ rfl
    rw [if_neg c3]
    by_cases c4 : n > 5000
    · exact yes _ (by simpa using c4)
    · simp only [dovecotelaw06_ClockCounts.j0]
      rw [if_neg (by simpa using c4)]
      exact counts x n (by omega) n.toNat K 0 p l (by omega) (by omega) (by omega) (by omega) hp (by omega) hl h2 (by omega)
  · rw [if_neg hr]; exact yes _ rfl

end Go.Proofs.Ytgkpljlcdopalaa.Pure
