/- The pure law of ClockTalks: over numbers and lists alone. -/
import Derived.Test.YtgkpljlcdopalaaPClockTalksx4
import Derived.Test.YtgkpljlcdopalaaTyClockTalks
namespace Go.Proofs.Ytgkpljlcdopalaa.Pure
open Go.RowKit Go.Proofs.YtgkpljlcdopalaaW.PrintWords Go.Proofs.YtgkpljlcdopalaaW.PrintLast Go.Proofs.Ytgkpljlcdopalaa.PClockTalks Go.Proofs.Ytgkpljlcdopalaa.Shapes Go.Proofs.Ytgkpljlcdopalaa.TyClockTalks
set_option linter.unusedVariables false

def right (p l : Int) : Bool := decide (p ≤ 281474976710656) && decide (l ≤ 4095)
theorem right_eq (p l : Int) : stamp_Right.f p l = some (right p l) := by
  unfold stamp_Right.f right
  by_cases h : p ≤ 281474976710656 <;> simp [h]
theorem right_iff (p l : Int) : right p l = true ↔ p ≤ 281474976710656 ∧ l ≤ 4095 := by simp [right]
theorem wrap_u64 {n : Int} (h0 : 0 ≤ n) (h1 : n ≤ 18446744073709551615) : IntKind.u64.wrap n = n := by
  simp only [IntKind.wrap, IntKind.signed, IntKind.bits, Bool.false_and, Bool.false_eq_true, if_false]
  omega
theorem wrap_one {i : Int} {n : Int} (h0 : 0 ≤ i) (h1 : i < n) (hn : n ≤ 9223372036854775807) : wrap64 (i + 1) = i + 1 := by
  unfold wrap64
  omega

def next (p l : Int) : Int × Int × Int := if right p l = true then (if l < 4095 then (p, l + 1, 0) else if p < 281474976710656 then (p + 1, 0, 0) else (0, 0, 20)) else (0, 0, 1)
theorem next_eq {p l : Int} (hp : 0 ≤ p) (hl : 0 ≤ l) : stamp_Next.f p l = some (next p l) := by
  unfold stamp_Next.f next
  rw [right_eq, Option.bind_some]
  by_cases h : right p l = true
  · rw [if_pos h, if_pos h]
    obtain ⟨h1, h2⟩ := (right_iff p l).1 h
    have e : (l + 1) % 4294967296 = l + 1 := by omega
    rw [e]
    by_cases h3 : l < 4095
    · rw [if_neg (by omega), if_pos h3, right_eq, Option.bind_some, if_pos ((right_iff _ _).2 ⟨h1, by omega⟩)]
    · rw [if_pos (by omega), if_neg h3, wrap_u64 (by omega) (by omega), right_eq, Option.bind_some]
      by_cases h4 : p < 281474976710656
      · rw [if_pos ((right_iff _ _).2 ⟨by omega, by omega⟩), if_pos h4]
      · rw [if_neg (by rw [right_iff]; omega), if_neg h4]
  · rw [if_neg h, if_neg h]

def tick (p l x : Int) : Int × Int × Int := if (next p l).2.2 = 1 then (0, 0, 1) else if x > 281474976710656 then (0, 0, 20) else if x > p then (x, 0, 0) else next p l
theorem tick_eq {p l : Int} (hp : 0 ≤ p) (hl : 0 ≤ l) (x : Int) : clock_Tick.f p l x = some (tick p l x) := by
  unfold clock_Tick.f tick
  rw [next_eq hp hl, Option.bind_some]
  by_cases h : (next p l).2.2 = 1
  · rw [if_pos h, if_pos h, h]
  · rw [if_neg h, if_neg h]
    by_cases h1 : x > 281474976710656
    · rw [if_pos h1, if_pos h1]
    · rw [if_neg h1, if_neg h1]
      by_cases h2 : x > p
      · rw [if_pos h2, if_pos h2]
      · rw [if_neg h2, if_neg h2]
/-- A tick of a right stamp below the end, by a reading that is in range. -/
theorem tick_ok {p l x : Int} (hp : 0 ≤ p) (hp2 : p < 281474976710656) (hl : 0 ≤ l) (hl2 : l ≤ 4095) (hx : x ≤ 281474976710656) :
    tick p l x = if x > p then (x, 0, 0) else if l < 4095 then (p, l + 1, 0) else (p + 1, 0, 0) := by
  have hr := (right_iff p l).2 ⟨by omega, hl2⟩
  have hn : next p l = if l < 4095 then (p, l + 1, 0) else (p + 1, 0, 0) := by
    unfold next
    rw [if_pos hr]
    by_cases h : l < 4095
    · rw [if_pos h, if_pos h]
    · rw [if_neg h, if_neg h, if_pos hp2]
  have he : (next p l).2.2 = 0 := by
    rw [hn]
    split <;> rfl
  unfold tick
  rw [if_neg (by omega), if_neg (by omega), hn]

theorem or_eq (k : Nat) (hk : 3 ≤ k) (x y : Int) : cmp_Or_int.f k [x, y] = some (if x = 0 then y else x) := by
  obtain ⟨k, rfl⟩ : ∃ m, k = m + 3 := ⟨k - 3, by omega⟩
  have w1 : wrap64 (0 + 1) = 1 := by rw [wrap_one (n := 10) (by omega) (by omega) (by omega)]; rfl
  have w2 : wrap64 (1 + 1) = 2 := by rw [wrap_one (n := 10) (by omega) (by omega) (by omega)]; rfl
  have r0 : rd [x, y] 0 = x := rfl
  have r1 : rd [x, y] 1 = y := rfl
  have hl : (([x, y] : List Int).length : Int) = 2 := rfl
  unfold cmp_Or_int.f
  rw [hl]
  unfold cmp_Or_int.l0
  rw [if_pos (by omega), if_pos (by omega), hl, if_pos (by omega), r0, w1]
  by_cases h : x = 0
  · rw [if_pos h, if_pos h]
    unfold cmp_Or_int.l0
    rw [if_pos (by omega), if_pos (by omega), hl, if_pos (by omega), r1, w2]
    by_cases h' : y = 0
    · rw [if_pos h']
      unfold cmp_Or_int.l0
      rw [if_neg (by omega), h']
    · rw [if_neg h']
  · rw [if_neg h, if_neg h]
theorem cmp64_eq (a b : Int) : cmp_Compare_uint64.f a b = some (if a < b then -1 else if b < a then 1 else 0) := by
  unfold cmp_Compare_uint64.f cmp_isNaN_uint64.f
  simp only [bne_self_eq_false, Option.bind_some, Bool.false_eq_true, if_false]
  by_cases h : a < b
  · rw [if_pos h, if_pos h]
  · rw [if_neg h, if_neg h]
    by_cases h' : b < a
    · rw [if_pos h', if_pos h']
    · rw [if_neg h', if_neg h']
theorem cmp32_eq (a b : Int) : cmp_Compare_uint32.f a b = some (if a < b then -1 else if b < a then 1 else 0) := by
  unfold cmp_Compare_uint32.f cmp_isNaN_uint32.f
  simp only [bne_self_eq_false, Option.bind_some, Bool.false_eq_true, if_false]
  by_cases h : a < b
  · rw [if_pos h, if_pos h]
  · rw [if_neg h, if_neg h]
    by_cases h' : b < a
    · rw [if_pos h', if_pos h']
    · rw [if_neg h', if_neg h']
def less (a b c d : Int) : Bool := decide (a < c ∨ a = c ∧ b < d)
theorem less_eq {k : Nat} (hk : 3 ≤ k) (a b c d : Int) : stamp_Less.f k a b c d = some (less a b c d) := by
  unfold stamp_Less.f less
  rw [cmp64_eq, Option.bind_some, cmp32_eq, Option.bind_some, or_eq k hk, Option.bind_some]
  congr 1
  rw [decide_eq_decide]
  split <;> split <;> (try split) <;> (try split) <;> omega
theorem less_iff (a b c d : Int) : less a b c d = true ↔ (a < c ∨ a = c ∧ b < d) := by simp [less]

theorem rd_25 (x y : S25) : rd_T25 [x, y] 0 = x ∧ rd_T25 [x, y] 1 = y := ⟨rfl, rfl⟩
/-- The greatest of two, as the loop over them tells it. -/
def max2 (a b c d : Int) : Int × Int := if less a b c d = true then (c, d) else (a, b)
theorem max_eq {k : Nat} (hk : 8 ≤ k) {a b c d : Int} (ha : 0 ≤ a) (hb : 0 ≤ b) (hc : 0 ≤ c) (hd : 0 ≤ d) : stamp_Max.f k [⟨a, b⟩, ⟨c, d⟩] = some (max2 a b c d) := by
  obtain ⟨k, rfl⟩ : ∃ m, k = m + 3 := ⟨k - 3, by omega⟩
  have w1 : wrap64 (0 + 1) = 1 := by rw [wrap_one (n := 10) (by omega) (by omega) (by omega)]; rfl
  have w2 : wrap64 (1 + 1) = 2 := by rw [wrap_one (n := 10) (by omega) (by omega) (by omega)]; rfl
  obtain ⟨r0, r1⟩ := rd_25 ⟨a, b⟩ ⟨c, d⟩
  have hl : (([⟨a, b⟩, ⟨c, d⟩] : List S25).length : Int) = 2 := rfl
  have step : ∀ p l : Int, stamp_Max.l0 (k + 2) [⟨a, b⟩, ⟨c, d⟩] 2 1 p l = some (if less p l c d = true then (c, d) else (p, l)) := by
    intro p l
    unfold stamp_Max.l0
    rw [if_pos (by omega), if_pos (by omega), hl, if_pos (by omega), r1, w2, less_eq (by omega), Option.bind_some]
    by_cases h : less p l c d = true
    · rw [if_pos h, if_pos h]
      unfold stamp_Max.l0
      rw [if_neg (by omega)]
    · rw [if_neg h, if_neg h]
      unfold stamp_Max.l0
      rw [if_neg (by omega)]
  unfold stamp_Max.f
  rw [hl]
  unfold stamp_Max.l0
  rw [if_pos (by omega), if_pos (by omega), hl, if_pos (by omega), r0, w1, less_eq (by omega), Option.bind_some]
  by_cases h : less 0 0 a b = true
  · rw [if_pos h]
    exact step a b
  · rw [if_neg h, step]
    have e : a = 0 ∧ b = 0 := by
      rw [less_iff] at h
      omega
    rw [e.1, e.2]
    rfl
theorem mx_eq (a b : Int) : mx a b = if a < b then b else a := rfl
theorem ahead_eq {a b : Int} (hb0 : 0 ≤ b) (ha0 : 0 ≤ a) (ha : a ≤ 18446744073709551615) : clock_ahead.f a b = some (if b < a then a - b else 0) := by
  unfold clock_ahead.f
  rw [mx_eq]
  by_cases h : a < b
  · rw [if_pos h, if_neg (by omega), wrap_u64 (by omega) (by omega)]
    congr 1
    omega
  · rw [if_neg h, wrap_u64 (by omega) (by omega)]
    by_cases h' : b < a
    · rw [if_pos h']
    · rw [if_neg h']
      congr 1
      omega
def merge (a b x c d : Int) : Int × Int × Int := if right a b = true ∧ right c d = true then (if c - x > 1000 then (0, 0, 21) else ((max2 a b c d).1, (max2 a b c d).2, 0)) else (0, 0, 1)
theorem merge_eq {k : Nat} (hk : 10 ≤ k) {a b x c d : Int} (ha : 0 ≤ a) (hb : 0 ≤ b) (hc : 0 ≤ c) (hd : 0 ≤ d) (hx : 0 ≤ x) : clock_Merge.f k a b x c d = some (merge a b x c d) := by
  obtain ⟨k, rfl⟩ : ∃ m, k = m + 1 := ⟨k - 1, by omega⟩
  unfold clock_Merge.f merge
  rw [right_eq, Option.bind_some]
  by_cases h1 : right a b = true
  · rw [if_pos h1, right_eq, Option.bind_some]
    by_cases h2 : right c d = true
    · rw [if_pos ⟨h1, h2⟩, h2]
      have h2' := (right_iff c d).1 h2
      simp only [clock_Merge.j0, Bool.not_true, Bool.false_eq_true, if_false]
      rw [ahead_eq hx hc (by omega), Option.bind_some]
      by_cases h3 : c - x > 1000
      · have e : (if x < c then c - x else 0) > 1000 := by split <;> omega
        rw [if_pos h3, if_pos e]
      · have e : ¬ (if x < c then c - x else 0) > 1000 := by split <;> omega
        rw [if_neg h3, if_neg e, max_eq (by omega) ha hb hc hd, Option.bind_some]
    · rw [if_neg (by simp [h2])]
      simp only [clock_Merge.j0, h2, Bool.not_false, if_true]
  · rw [if_neg h1, if_neg (by simp [h1])]
    simp only [clock_Merge.j0, if_true]

theorem awake_eq : dovecotelaw06_awake.f = some true := by
  unfold dovecotelaw06_awake.f
  rw [tick_eq (by omega) (by omega), Option.bind_some, tick_eq (by omega) (by omega), Option.bind_some]
  decide
theorem next_less {p l : Int} (h : (next p l).2.2 = 0) : less p l (next p l).1 (next p l).2.1 = true := by
  unfold next at h ⊢
  split
  · split
    · exact (less_iff _ _ _ _).2 (.inr ⟨rfl, by dsimp only; omega⟩)
    · split
      · exact (less_iff _ _ _ _).2 (.inl (by dsimp only; omega))
      · rw [if_pos ‹_›, if_neg ‹_›, if_neg ‹_›] at h
        cases h
  · rw [if_neg ‹_›] at h
    cases h
theorem tick_less {p l x : Int} (h : (tick p l x).2.2 = 0) : less p l (tick p l x).1 (tick p l x).2.1 = true ∧ ((tick p l x).1 = x ∧ (tick p l x).2.1 = 0 ∧ x ≤ 281474976710656 ∨ tick p l x = next p l) := by
  unfold tick at h ⊢
  by_cases h1 : (next p l).2.2 = 1
  · rw [if_pos h1] at h; cases h
  rw [if_neg h1] at h ⊢
  by_cases h2 : x > 281474976710656
  · rw [if_pos h2] at h; cases h
  rw [if_neg h2] at h ⊢
  by_cases h3 : x > p
  · rw [if_pos h3] at h ⊢
    exact ⟨(less_iff _ _ _ _).2 (.inl (by dsimp only; omega)), .inl ⟨rfl, rfl, by omega⟩⟩
  · rw [if_neg h3] at h ⊢
    exact ⟨next_less h, .inr rfl⟩
theorem next_right {p l : Int} (hp : 0 ≤ p) (hl : 0 ≤ l) (h : (next p l).2.2 = 0) : right (next p l).1 (next p l).2.1 = true ∧ 0 ≤ (next p l).1 ∧ 0 ≤ (next p l).2.1 := by
  unfold next at h ⊢
  split
  · obtain ⟨r1, r2⟩ := (right_iff p l).1 ‹_›
    split
    · exact ⟨(right_iff _ _).2 ⟨by dsimp only; omega, by dsimp only; omega⟩, by dsimp only; omega, by dsimp only; omega⟩
    · split
      · exact ⟨(right_iff _ _).2 ⟨by dsimp only; omega, by dsimp only; omega⟩, by dsimp only; omega, by dsimp only; omega⟩
      · rw [if_pos ‹_›, if_neg ‹_›, if_neg ‹_›] at h
        cases h
  · rw [if_neg ‹_›] at h
    cases h
theorem tick_right {p l x : Int} (hp : 0 ≤ p) (hl : 0 ≤ l) (hx : 0 ≤ x) (h : (tick p l x).2.2 = 0) : right (tick p l x).1 (tick p l x).2.1 = true ∧ 0 ≤ (tick p l x).1 ∧ 0 ≤ (tick p l x).2.1 := by
  rcases (tick_less h).2 with ⟨e1, e2, e3⟩ | e
  · rw [e1, e2]
    exact ⟨(right_iff _ _).2 ⟨e3, by omega⟩, hx, by omega⟩
  · rw [e] at h ⊢
    exact next_right hp hl h
/-- A tick by a reading of 0 shows the next, or runs over. -/
theorem tick_zero {p l : Int} (hp : 0 ≤ p) (hr : right p l = true) : (tick p l 0).2.2 = 20 ∨ (tick p l 0).2.2 = 0 := by
  have hn : (next p l).2.2 = 20 ∨ (next p l).2.2 = 0 := by
    unfold next
    rw [if_pos hr]
    split
    · exact .inr rfl
    · split
      · exact .inr rfl
      · exact .inl rfl
  unfold tick
  rw [if_neg (by omega), if_neg (by omega), if_neg (by omega)]
  exact hn
theorem less_trans' {a b c d e f : Int} (h1 : less a b c d = true) (h2 : less c d e f = true) : less a b e f = true := by
  have h1' := (less_iff _ _ _ _).1 h1
  have h2' := (less_iff _ _ _ _).1 h2
  exact (less_iff _ _ _ _).2 (by omega)
theorem max2_less {a b c d e f : Int} (h : less (max2 a b c d).1 (max2 a b c d).2 e f = true) : less a b e f = true ∧ less c d e f = true := by
  unfold max2 at h
  have hm : ∀ p q r s : Int, less p q r s = true ↔ (p < r ∨ p = r ∧ q < s) := less_iff
  by_cases h1 : less a b c d = true
  · rw [if_pos h1] at h
    rw [hm] at h h1
    rw [hm, hm]
    simp only at h
    omega
  · rw [if_neg h1] at h
    rw [hm] at h h1
    rw [hm, hm]
    simp only at h
    omega
theorem talks {k : Nat} (hk : 20 ≤ k) (a b c d x y : Int) (ha : 0 ≤ a) (hb : 0 ≤ b) (hc : 0 ≤ c) (hd : 0 ≤ d) (hx : 0 ≤ x) (hx2 : x ≤ 140737488355328) (hy : 0 ≤ y) (hy2 : y ≤ 1000) :
    dovecotelaw06_ClockTalks.j0 (k + 1) x y false a b c d = some true := by
  simp only [dovecotelaw06_ClockTalks.j0, Bool.false_eq_true, if_false]
  rw [tick_eq ha hb, Option.bind_some]
  by_cases e0 : (tick a b x).2.2 = 0
  · rw [if_pos e0, wrap_u64 (n := y) (by omega) (by omega), wrap_u64 (by omega) (by omega)]
    obtain ⟨tr, tp, tl⟩ := tick_right ha hb hx e0
    have tless := (tick_less e0).1
    generalize (tick a b x).1 = t at *
    generalize (tick a b x).2.1 = u at *
    rw [merge_eq (by omega) hc hd tp tl (by omega), Option.bind_some]
    by_cases hr : right c d = true
    · by_cases h3 : t - (x + y) > 1000
      · have e : merge c d (x + y) t u = (0, 0, 21) := by unfold merge; rw [if_pos ⟨hr, tr⟩, if_pos h3]
        rw [e, if_neg (by decide), right_eq, Option.bind_some, if_pos hr, wrap_u64 (by omega) (by omega)]
        congr 1
        exact decide_eq_true (by omega)
      · have e : merge c d (x + y) t u = ((max2 c d t u).1, (max2 c d t u).2, 0) := by unfold merge; rw [if_pos ⟨hr, tr⟩, if_neg h3]
        have mr : right (max2 c d t u).1 (max2 c d t u).2 = true ∧ 0 ≤ (max2 c d t u).1 ∧ 0 ≤ (max2 c d t u).2 := by
          unfold max2
          split
          · exact ⟨tr, tp, tl⟩
          · exact ⟨hr, hc, hd⟩
        rw [e, if_pos rfl]
        dsimp only
        rw [tick_eq mr.2.1 mr.2.2, Option.bind_some]
        by_cases h20 : (tick (max2 c d t u).1 (max2 c d t u).2 0).2.2 = 20
        · rw [if_pos h20]
        · rw [if_neg h20]
          have h0 : (tick (max2 c d t u).1 (max2 c d t u).2 0).2.2 = 0 := by
            rcases tick_zero mr.2.1 mr.1 with h | h
            · exact absurd h h20
            · exact h
          obtain ⟨l1, l2⟩ := max2_less (tick_less h0).1
          rw [if_pos h0, less_eq (by omega), Option.bind_some, if_pos l2, less_eq (by omega), Option.bind_some, if_pos l1, less_eq (by omega), Option.bind_some, less_trans' tless l2]
    · have e : merge c d (x + y) t u = (0, 0, 1) := by unfold merge; rw [if_neg (by simp [hr])]
      rw [e, if_neg (by decide), right_eq, Option.bind_some, if_neg hr]
  · rw [if_neg e0]

theorem ClockTalks : ∀ (a0_0 a0_1 a0_2 a0_3 a0_4 a0_5 : Int), ok64 ⟨a0_0, a0_1, a0_2, a0_3, a0_4, a0_5⟩ → ∃ k, dovecotelaw06_ClockTalks.f k a0_0 a0_1 a0_2 a0_3 a0_4 a0_5 = some true := by
  intro a b c d x y ⟨⟨ha, _⟩, ⟨hb, _⟩, ⟨hc, _⟩, ⟨hd, _⟩, ⟨hx, _⟩, hy, _⟩
  have ha : 0 ≤ a := ha
  have hb : 0 ≤ b := hb
  have hc : 0 ≤ c := hc
  have hd : 0 ≤ d := hd
  have hx : 0 ≤ x := hx
  have hy : 0 ≤ y := hy
  obtain ⟨K, hK⟩ : ∃ K, K = 40 := ⟨_, rfl⟩
  refine ⟨K + 1, ?_⟩
  unfold dovecotelaw06_ClockTalks.f
  rw [awake_eq, Option.bind_some, if_pos rfl]
  by_cases h1 : x > 140737488355328
  · rw [if_pos h1]
    simp only [dovecotelaw06_ClockTalks.j0, if_true]
  · rw [if_neg h1]
    by_cases h2 : y > 1000
    · rw [decide_eq_true h2]
      simp only [dovecotelaw06_ClockTalks.j0, if_true]
    · rw [decide_eq_false h2]
      exact talks (by omega) a b c d x y ha hb hc hd hx (by omega) hy (by omega)

end Go.Proofs.Ytgkpljlcdopalaa.Pure
