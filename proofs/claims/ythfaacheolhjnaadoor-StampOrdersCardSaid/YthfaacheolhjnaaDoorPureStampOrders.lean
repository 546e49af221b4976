/- The pure law of StampOrders: over numbers and lists alone. -/
import Derived.Test.YthfaacheolhjnaaDoorMStampOrdersx4t
import Derived.Test.YthfaacheolhjnaaDoorTyStampOrders
namespace Go.Proofs.YthfaacheolhjnaaDoor.Pure
open Go.RowKit Go.Proofs.YthfaacheolhjnaaDoorW.PrintWords Go.Proofs.YthfaacheolhjnaaDoorW.PrintLast Go.Proofs.YthfaacheolhjnaaDoor.MStampOrders Go.Proofs.YthfaacheolhjnaaDoor.Shapes Go.Proofs.YthfaacheolhjnaaDoor.TyStampOrders
set_option linter.unusedVariables false

def right (p l : Int) : Bool := decide (p ≤ 281474976710656) && decide (l ≤ 4095)
theorem right_eq (p l : Int) : stamp_Right.f p l = some (right p l) := by
  unfold stamp_Right.f right
  by_cases h : p ≤ 281474976710656 <;> simp [h]
theorem right_iff (p l : Int) : right p l = true ↔ p ≤ 281474976710656 ∧ l ≤ 4095 := by simp [right]
theorem wrap_u64 {n : Int} (h0 : 0 ≤ n) (h1 : n ≤ 18446744073709551615) : IntKind.u64.wrap n = n := by
  simp only [IntKind.wrap, IntKind.signed, IntKind.bits, Bool.false_and, Bool.false_eq_true, if_false]
  omega
theorem wrap_one {i : Int} {n : Int} (h0 : 0 ≤ i) (h1 : i < n) (hn : n ≤ 9223372036854775807) : wrap64 (i + 1) = i + 1 := by
  unfold wrap64
  omega

theorem or_eq (k : Nat) (hk : 3 ≤ k) (x y : Int) : cmp_Or_int.f k [x, y] = some (if x = 0 then y else x) := by
  obtain ⟨k, rfl⟩ : ∃ m, k = m + 3 := ⟨k - 3, by omega⟩
  have w1 : wrap64 (0 + 1) = 1 := by rw [wrap_one (n := 10) (by omega) (by omega) (by omega)]; rfl
  have w2 : wrap64 (1 + 1) = 2 := by rw [wrap_one (n := 10) (by omega) (by omega) (by omega)]; rfl
  have r0 : rd [x, y] 0 = x := rfl
  have r1 : rd [x, y] 1 = y := rfl
  have hl : (([x, y] : List Int).length : Int) = 2 := rfl
  unfold cmp_Or_int.f
  rw [hl]
  unfold cmp_Or_int.l0
  rw [if_pos (by omega), if_pos (by omega), hl, if_pos (by omega), r0, w1]
  by_cases h : x = 0
  · rw [if_pos h, if_pos h]
    unfold cmp_Or_int.l0
    rw [if_pos (by omega), if_pos (by omega), hl, if_pos (by omega), r1, w2]
    by_cases h' : y = 0
    · rw [if_pos h']
      unfold cmp_Or_int.l0
      rw [if_neg (by omega), h']
    · rw [if_neg h']
  · rw [if_neg h, if_neg h]
theorem cmp64_eq (a b : Int) : cmp_Compare_uint64.f a b = some (if a < b then -1 else if b < a then 1 else 0) := by
  unfold cmp_Compare_uint64.f cmp_isNaN_uint64.f
  simp only [bne_self_eq_false, Option.bind_some, Bool.false_eq_true, if_false]
  by_cases h : a < b
  · rw [if_pos h, if_pos h]
  · rw [if_neg h, if_neg h]
    by_cases h' : b < a
    · rw [if_pos h', if_pos h']
    · rw [if_neg h', if_neg h']
theorem cmp32_eq (a b : Int) : cmp_Compare_uint32.f a b = some (if a < b then -1 else if b < a then 1 else 0) := by
  unfold cmp_Compare_uint32.f cmp_isNaN_uint32.f
  simp only [bne_self_eq_false, Option.bind_some, Bool.false_eq_true, if_false]
  by_cases h : a < b
  · rw [if_pos h, if_pos h]
  · rw [if_neg h, if_neg h]
    by_cases h' : b < a
    · rw [if_pos h', if_pos h']
    · rw [if_neg h', if_neg h']
def less (a b c d : Int) : Bool := decide (a < c ∨ a = c ∧ b < d)
theorem less_eq {k : Nat} (hk : 3 ≤ k) (a b c d : Int) : stamp_Less.f k a b c d = some (less a b c d) := by
  unfold stamp_Less.f less
  rw [cmp64_eq, Option.bind_some, cmp32_eq, Option.bind_some, or_eq k hk, Option.bind_some]
  congr 1
  rw [decide_eq_decide]
  split <;> split <;> (try split) <;> (try split) <;> omega
theorem less_iff (a b c d : Int) : less a b c d = true ↔ (a < c ∨ a = c ∧ b < d) := by simp [less]

theorem rd_25 (x y : S25) : rd_T25 [x, y] 0 = x ∧ rd_T25 [x, y] 1 = y := ⟨rfl, rfl⟩
/-- The greatest of two, as the loop over them tells it. -/
def max2 (a b c d : Int) : Int × Int := if less a b c d = true then (c, d) else (a, b)
theorem max_eq {k : Nat} (hk : 8 ≤ k) {a b c d : Int} (ha : 0 ≤ a) (hb : 0 ≤ b) (hc : 0 ≤ c) (hd : 0 ≤ d) : stamp_Max.f k [⟨a, b⟩, ⟨c, d⟩] = some (max2 a b c d) := by
  obtain ⟨k, rfl⟩ : ∃ m, k = m + 3 := ⟨k - 3, by omega⟩
  have w1 : wrap64 (0 + 1) = 1 := by rw [wrap_one (n := 10) (by omega) (by omega) (by omega)]; rfl
  have w2 : wrap64 (1 + 1) = 2 := by rw [wrap_one (n := 10) (by omega) (by omega) (by omega)]; rfl
  obtain ⟨r0, r1⟩ := rd_25 ⟨a, b⟩ ⟨c, d⟩
  have hl : (([⟨a, b⟩, ⟨c, d⟩] : List S25).length : Int) = 2 := rfl
  have step : ∀ p l : Int, stamp_Max.l0 (k + 2) [⟨a, b⟩, ⟨c, d⟩] 2 1 p l = some (if less p l c d = true then (c, d) else (p, l)) := by
    intro p l
    unfold stamp_Max.l0
    rw [if_pos (by omega), if_pos (by omega), hl, if_pos (by omega), r1, w2, less_eq (by omega), Option.bind_some]
    by_cases h : less p l c d = true
    · rw [if_pos h, if_pos h]
      unfold stamp_Max.l0
      rw [if_neg (by omega)]
    · rw [if_neg h, if_neg h]
      unfold stamp_Max.l0
      rw [if_neg (by omega)]
  unfold stamp_Max.f
  rw [hl]
  unfold stamp_Max.l0
  rw [if_pos (by omega), if_pos (by omega), hl, if_pos (by omega), r0, w1, less_eq (by omega), Option.bind_some]
  by_cases h : less 0 0 a b = true
  · rw [if_pos h]
    exact step a b
  · rw [if_neg h, step]
    have e : a = 0 ∧ b = 0 := by
      rw [less_iff] at h
      omega
    rw [e.1, e.2]
    rfl

theorem rright_eq (p l : Int) : dovecoteref01_Right.f p l = some (right p l) := by
  unfold dovecoteref01_Right.f right
  by_cases h : p ≤ 281474976710656 <;> simp [h]
theorem rless_eq (a b c d : Int) : dovecoteref01_Less.f a b c d = some (less a b c d) := by
  unfold dovecoteref01_Less.f less
  by_cases h : a < c
  · rw [if_pos h]
    congr 1
    exact (decide_eq_true (.inl h)).symm
  · rw [if_neg h]
    by_cases h' : a = c
    · rw [if_pos h']
      congr 1
      rw [decide_eq_decide]
      omega
    · rw [if_neg h']
      congr 1
      exact (decide_eq_false (by omega)).symm
theorem rmax_eq (a b c d : Int) : dovecoteref01_Max.f a b c d = some (max2 a b c d) := by
  unfold dovecoteref01_Max.f max2
  rw [rless_eq, Option.bind_some]
  split <;> rfl

def next (p l : Int) : Int × Int × Int := if right p l = true then (if l < 4095 then (p, l + 1, 0) else if p < 281474976710656 then (p + 1, 0, 0) else (0, 0, 20)) else (0, 0, 1)
theorem next_eq {p l : Int} (hp : 0 ≤ p) (hl : 0 ≤ l) : stamp_Next.f p l = some (next p l) := by
  unfold stamp_Next.f next
  rw [right_eq, Option.bind_some]
  by_cases h : right p l = true
  · rw [if_pos h, if_pos h]
    obtain ⟨h1, h2⟩ := (right_iff p l).1 h
    have e : (l + 1) % 4294967296 = l + 1 := by omega
    rw [e]
    by_cases h3 : l < 4095
    · rw [if_neg (by omega), if_pos h3, right_eq, Option.bind_some, if_pos ((right_iff _ _).2 ⟨h1, by omega⟩)]
    · rw [if_pos (by omega), if_neg h3, wrap_u64 (by omega) (by omega), right_eq, Option.bind_some]
      by_cases h4 : p < 281474976710656
      · rw [if_pos ((right_iff _ _).2 ⟨by omega, by omega⟩), if_pos h4]
      · rw [if_neg (by rw [right_iff]; omega), if_neg h4]
  · rw [if_neg h, if_neg h]

theorem text_eq : stamp_Text.f 5 7 = some ⟨#[53, 46, 55]⟩ := by
  have e1 : digit 5 = ⟨#[53]⟩ := by decide +kernel
  have e2 : digit 7 = ⟨#[55]⟩ := by decide +kernel
  unfold stamp_Text.f
  rw [if_pos (by omega), show (5 : Int).toNat = 5 from rfl, show (7 : Int).toNat = 7 from rfl, e1, e2]
  rfl
theorem awake_eq : dovecotelaw01_awake.f = some true := by
  unfold dovecotelaw01_awake.f
  rw [next_eq (by omega) (by omega), Option.bind_some, text_eq, Option.bind_some]
  have h : ((⟨#[53, 46, 55]⟩ : ByteArray).toList = ([53, 46, 55] : List UInt8)) := by decide +kernel
  rw [if_pos h]
  decide
theorem rnext_eq {p l : Int} (hp : 0 ≤ p) (hl : 0 ≤ l) : dovecoteref01_Next.f p l = some (next p l) := by
  unfold dovecoteref01_Next.f next
  rw [rright_eq, Option.bind_some]
  by_cases h : right p l = true
  · rw [if_pos h, if_pos h]
    obtain ⟨h1, h2⟩ := (right_iff p l).1 h
    by_cases h3 : l < 4095
    · rw [if_pos h3, if_pos h3, show (l + 1) % 4294967296 = l + 1 by omega]
    · rw [if_neg h3, if_neg h3]
      by_cases h4 : p < 281474976710656
      · rw [if_pos h4, if_neg (by omega), wrap_u64 (by omega) (by omega)]
      · rw [if_neg h4, if_pos (by omega)]
  · rw [if_neg h, if_neg h]
theorem max_step {k : Nat} (hk : 3 ≤ k) (xs : List S25) {n i : Int} (h0 : 0 ≤ i) (h1 : i < n) (hn : n = (xs.length : Int)) (hb : n ≤ 100) (p l : Int) :
    stamp_Max.l0 (k + 1) xs n i p l = stamp_Max.l0 k xs n (i + 1) (max2 p l ((rd_T25 xs i).f0) ((rd_T25 xs i).f1)).1 (max2 p l ((rd_T25 xs i).f0) ((rd_T25 xs i).f1)).2 := by
  rw [stamp_Max.l0, if_pos h1, if_pos h0, if_pos (by omega), less_eq hk, Option.bind_some, wrap_one (n := 100) h0 (by omega) (by omega)]
  unfold max2
  split <;> rfl
theorem max_end {k : Nat} (xs : List S25) {n i : Int} (h1 : ¬ i < n) (p l : Int) : stamp_Max.l0 (k + 1) xs n i p l = some (p, l) := by
  rw [stamp_Max.l0, if_neg h1]
theorem max2_zero {a b : Int} (ha : 0 ≤ a) (hb : 0 ≤ b) : max2 0 0 a b = (a, b) := by
  unfold max2
  split
  · rfl
  · next h =>
    rw [less_iff] at h
    have e : a = 0 ∧ b = 0 := by omega
    rw [e.1, e.2]
theorem max3_eq {k : Nat} (hk : 10 ≤ k) {a b c d e f : Int} (ha : 0 ≤ a) (hb : 0 ≤ b) : stamp_Max.f k [⟨a, b⟩, ⟨c, d⟩, ⟨e, f⟩] = some (max2 (max2 a b c d).1 (max2 a b c d).2 e f) := by
  obtain ⟨k, rfl⟩ : ∃ m, k = m + 4 := ⟨k - 4, by omega⟩
  unfold stamp_Max.f
  have hl : (([⟨a, b⟩, ⟨c, d⟩, ⟨e, f⟩] : List S25).length : Int) = 3 := rfl
  have r0 : rd_T25 [⟨a, b⟩, ⟨c, d⟩, ⟨e, f⟩] 0 = ⟨a, b⟩ := rfl
  have r1 : rd_T25 [⟨a, b⟩, ⟨c, d⟩, ⟨e, f⟩] (0 + 1) = ⟨c, d⟩ := rfl
  have r2 : rd_T25 [⟨a, b⟩, ⟨c, d⟩, ⟨e, f⟩] (0 + 1 + 1) = ⟨e, f⟩ := rfl
  rw [hl, max_step (k := k + 3) (n := 3) (by omega) _ (by omega) (by omega) hl.symm (by omega), r0]
  dsimp only
  rw [max2_zero ha hb, max_step (k := k + 2) (n := 3) (by omega) _ (by omega) (by omega) hl.symm (by omega), r1]
  dsimp only
  rw [max_step (k := k + 1) (n := 3) (by omega) _ (by omega) (by omega) hl.symm (by omega), r2, max_end _ (by omega)]
theorem max1_eq {k : Nat} (hk : 10 ≤ k) {a b : Int} (ha : 0 ≤ a) (hb : 0 ≤ b) : stamp_Max.f k [⟨a, b⟩] = some (a, b) := by
  obtain ⟨k, rfl⟩ : ∃ m, k = m + 4 := ⟨k - 4, by omega⟩
  unfold stamp_Max.f
  have hl : (([⟨a, b⟩] : List S25).length : Int) = 1 := rfl
  have r0 : rd_T25 [⟨a, b⟩] 0 = ⟨a, b⟩ := rfl
  rw [hl, max_step (k := k + 3) (n := 1) (by omega) _ (by omega) (by omega) hl.symm (by omega), r0]
  dsimp only
  rw [max2_zero ha hb, max_end _ (by omega)]
theorem max0_eq {k : Nat} (hk : 10 ≤ k) : stamp_Max.f k ([] : List S25) = some (0, 0) := by
  obtain ⟨k, rfl⟩ : ∃ m, k = m + 4 := ⟨k - 4, by omega⟩
  unfold stamp_Max.f
  rw [max_end _ (by decide)]
theorem less_no {a b c d : Int} : less a b c d = false ↔ ¬ (a < c ∨ a = c ∧ b < d) := by simp [less]
theorem ne_no {a b c d : Int} (h : a = c ∧ b = d) : (!(a == c) || (!(b == d))) = false := by simp [h.1, h.2]
theorem next_less {p l : Int} (hp : 0 ≤ p) (hl : 0 ≤ l) (h : (next p l).2.2 = 0) : less p l (next p l).1 (next p l).2.1 = true ∧ ∀ a b : Int, 0 ≤ a → 0 ≤ b → right a b = true → less p l a b = true → less a b (next p l).1 (next p l).2.1 = false := by
  unfold next at h ⊢
  by_cases hr : right p l = true
  · rw [if_pos hr] at h ⊢
    by_cases h3 : l < 4095
    · rw [if_pos h3]
      refine ⟨by rw [less_iff]; dsimp only; omega, fun a b ha hb hab h' => ?_⟩
      rw [less_iff] at h'
      rw [less_no]
      dsimp only
      omega
    · rw [if_neg h3] at h ⊢
      by_cases h4 : p < 281474976710656
      · rw [if_pos h4]
        refine ⟨by rw [less_iff]; dsimp only; omega, fun a b ha hb hab h' => ?_⟩
        rw [less_iff] at h'
        rw [right_iff] at hab
        rw [less_no]
        dsimp only
        omega
      · rw [if_neg h4] at h
        exact absurd h (by decide)
  · rw [if_neg hr] at h
    exact absurd h (by decide)

theorem StampOrders : ∀ (a0_0 a0_1 a1_0 a1_1 a2_0 a2_1 : Int), ok25 ⟨a0_0, a0_1⟩ → ok25 ⟨a1_0, a1_1⟩ → ok25 ⟨a2_0, a2_1⟩ → ∃ k, dovecotelaw01_StampOrders.f k a0_0 a0_1 a1_0 a1_1 a2_0 a2_1 = some true := by
  intro p l p' l' p'' l'' h1 h2 h3
  have hp : 0 ≤ p := h1.1.1
  have hl : 0 ≤ l := h1.2.1
  have hp' : 0 ≤ p' := h2.1.1
  have hl' : 0 ≤ l' := h2.2.1
  refine ⟨20 + 1 + 1 + 1, ?_⟩
  unfold dovecotelaw01_StampOrders.f
  rw [awake_eq, Option.bind_some, if_pos rfl, next_eq hp hl, Option.bind_some, rnext_eq hp hl, Option.bind_some, right_eq, Option.bind_some, rright_eq, Option.bind_some, if_neg (by simp), less_eq (by omega), Option.bind_some, rless_eq, Option.bind_some, if_neg (by simp), if_neg (by simp), bne_self_eq_false]
  rw [dovecotelaw01_StampOrders.j0, if_neg (by decide), max3_eq (by omega) hp hl, Option.bind_some, rmax_eq, Option.bind_some, rmax_eq, Option.bind_some, if_neg (by simp), max0_eq (by omega), Option.bind_some, if_neg (by decide), max1_eq (by omega) hp' hl', Option.bind_some, ne_no ⟨rfl, rfl⟩]
  have last : dovecotelaw01_StampOrders.j2 (20 + 1) (next p l).2.2 false p l p' l' (next p l).1 (next p l).2.1 = some true := by
    rw [dovecotelaw01_StampOrders.j2, if_neg (by decide)]
    by_cases h : (next p l).2.2 = 0
    · obtain ⟨n1, n2⟩ := next_less hp hl h
      rw [if_pos h, less_eq (by omega), Option.bind_some, if_pos n1, right_eq, Option.bind_some]
      by_cases hr : right p' l' = true
      · rw [if_pos hr, less_eq (by omega), Option.bind_some]
        by_cases hh : less p l p' l' = true
        · rw [if_pos hh, less_eq (by omega), Option.bind_some, n2 _ _ hp' hl' hr hh]
          rfl
        · rw [if_neg hh]
          rfl
      · rw [if_neg hr]
        rfl
    · rw [if_neg h]
  rw [dovecotelaw01_StampOrders.j1, if_neg (by decide)]
  simp only [less_eq (k := 20 + 1) (by omega), Option.bind_some]
  by_cases h : less p l p' l' = true
  · have h0 : less p' l' p l = false := by rw [less_iff] at h; rw [less_no]; omega
    have hd : (p == p' && (l == l')) = false := by
      rw [less_iff] at h
      by_cases e : p = p'
      · have : l ≠ l' := by omega
        simp [this]
      · simp [e]
    rw [if_pos h, h0, if_neg (by decide), hd, if_neg (by decide), if_pos h]
    by_cases hc : less p' l' p'' l'' = true
    · have ht : less p l p'' l'' = true := by rw [less_iff] at h hc ⊢; omega
      rw [if_pos hc, if_pos ht, if_pos h]
      exact last
    · rw [if_neg hc, if_pos h]
      exact last
  · rw [if_neg h, if_neg h, if_neg h]
    by_cases h0 : less p' l' p l = true
    · rw [if_pos h0]
      exact last
    · rw [if_neg h0]
      have e : p = p' ∧ l = l' := by
        rw [less_iff] at h h0
        omega
      rw [ne_no e]
      exact last

end Go.Proofs.YthfaacheolhjnaaDoor.Pure
