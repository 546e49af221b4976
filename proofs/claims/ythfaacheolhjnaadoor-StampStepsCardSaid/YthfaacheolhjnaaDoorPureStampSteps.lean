/- The pure law of StampSteps: over numbers and lists alone. -/
import Derived.Test.YthfaacheolhjnaaDoorMStampStepsx2
import Derived.Test.YthfaacheolhjnaaDoorTyStampSteps
namespace Go.Proofs.YthfaacheolhjnaaDoor.Pure
open Go.RowKit Go.Proofs.YthfaacheolhjnaaDoorW.PrintWords Go.Proofs.YthfaacheolhjnaaDoorW.PrintLast Go.Proofs.YthfaacheolhjnaaDoor.MStampSteps Go.Proofs.YthfaacheolhjnaaDoor.Shapes Go.Proofs.YthfaacheolhjnaaDoor.TyStampSteps
set_option linter.unusedVariables false

def right (p l : Int) : Bool := decide (p ≤ 281474976710656) && decide (l ≤ 4095)
theorem right_eq (p l : Int) : stamp_Right.f p l = some (right p l) := by
  unfold stamp_Right.f right
  by_cases h : p ≤ 281474976710656 <;> simp [h]
theorem right_iff (p l : Int) : right p l = true ↔ p ≤ 281474976710656 ∧ l ≤ 4095 := by simp [right]
theorem wrap_u64 {n : Int} (h0 : 0 ≤ n) (h1 : n ≤ 18446744073709551615) : IntKind.u64.wrap n = n := by
  simp only [IntKind.wrap, IntKind.signed, IntKind.bits, Bool.false_and, Bool.false_eq_true, if_false]
  omega
theorem wrap_one {i : Int} {n : Int} (h0 : 0 ≤ i) (h1 : i < n) (hn : n ≤ 9223372036854775807) : wrap64 (i + 1) = i + 1 := by
  unfold wrap64
  omega

def next (p l : Int) : Int × Int × Int := if right p l = true then (if l < 4095 then (p, l + 1, 0) else if p < 281474976710656 then (p + 1, 0, 0) else (0, 0, 20)) else (0, 0, 1)
theorem next_eq {p l : Int} (hp : 0 ≤ p) (hl : 0 ≤ l) : stamp_Next.f p l = some (next p l) := by
  unfold stamp_Next.f next
  rw [right_eq, Option.bind_some]
  by_cases h : right p l = true
  · rw [if_pos h, if_pos h]
    obtain ⟨h1, h2⟩ := (right_iff p l).1 h
    have e : (l + 1) % 4294967296 = l + 1 := by omega
    rw [e]
    by_cases h3 : l < 4095
    · rw [if_neg (by omega), if_pos h3, right_eq, Option.bind_some, if_pos ((right_iff _ _).2 ⟨h1, by omega⟩)]
    · rw [if_pos (by omega), if_neg h3, wrap_u64 (by omega) (by omega), right_eq, Option.bind_some]
      by_cases h4 : p < 281474976710656
      · rw [if_pos ((right_iff _ _).2 ⟨by omega, by omega⟩), if_pos h4]
      · rw [if_neg (by rw [right_iff]; omega), if_neg h4]
  · rw [if_neg h, if_neg h]

theorem text_eq : stamp_Text.f 5 7 = some ⟨#[53, 46, 55]⟩ := by
  have e1 : digit 5 = ⟨#[53]⟩ := by decide +kernel
  have e2 : digit 7 = ⟨#[55]⟩ := by decide +kernel
  unfold stamp_Text.f
  rw [if_pos (by omega), show (5 : Int).toNat = 5 from rfl, show (7 : Int).toNat = 7 from rfl, e1, e2]
  rfl
theorem awake_eq : dovecotelaw01_awake.f = some true := by
  unfold dovecotelaw01_awake.f
  rw [next_eq (by omega) (by omega), Option.bind_some, text_eq, Option.bind_some]
  have h : ((⟨#[53, 46, 55]⟩ : ByteArray).toList = ([53, 46, 55] : List UInt8)) := by decide +kernel
  rw [if_pos h]
  decide
theorem steps (n p l : Int) (hn : n ≤ 9000) (hn0 : 0 ≤ n) (hp : 0 ≤ p) (hp2 : p ≤ 140737488355328) (hl : 0 ≤ l) (hl2 : l ≤ 4095) (d : Nat) : ∀ (k : Nat) (i x y : Int), 0 ≤ i → i ≤ n → n - i = d → d < k → 0 ≤ x → 0 ≤ y → y ≤ 4095 → x * 4096 + y = p * 4096 + l + i →
    dovecotelaw01_StampSteps.l0 k n n i p l x y = some true := by
  have hu : ∀ z : Int, 0 ≤ z → z ≤ 18446744073709551615 → IntKind.u64.wrap z = z := fun z => wrap_u64
  induction d with
  | zero =>
    intro k i x y h0 h1 hd hk hx hy hy2 hv
    obtain ⟨k, rfl⟩ : ∃ m, k = m + 1 := ⟨k - 1, by omega⟩
    simp only [dovecotelaw01_StampSteps.l0]
    rw [if_neg (by omega), hu l hl (by omega), hu n hn0 (by omega), hu (l + n) (by omega) (by omega), Int.tdiv_eq_ediv_of_nonneg (by omega), Int.tmod_eq_emod_of_nonneg (by omega), hu ((l + n) / 4096) (by omega) (by omega), hu (p + (l + n) / 4096) (by omega) (by omega)]
    have e1 : x = p + (l + n) / 4096 := by omega
    have e2 : y = (l + n) % 4096 % 4294967296 := by omega
    rw [← e1, ← e2]
    simp
  | succ d ih =>
    intro k i x y h0 h1 hd hk hx hy hy2 hv
    obtain ⟨k, rfl⟩ : ∃ m, k = m + 1 := ⟨k - 1, by omega⟩
    simp only [dovecotelaw01_StampSteps.l0]
    have hw : wrap64 (i + 1) = i + 1 := wrap_one (n := 10000) h0 (by omega) (by omega)
    have hr := (right_iff x y).2 ⟨by omega, hy2⟩
    rw [if_pos (by omega), next_eq hx hy, Option.bind_some, hw]
    unfold next
    rw [if_pos hr]
    by_cases h : y < 4095
    · rw [if_pos h, if_pos rfl]
      exact ih k (i + 1) x (y + 1) (by omega) (by omega) (by omega) (by omega) hx (by omega) (by omega) (by omega)
    · have hx2 : x < 281474976710656 := by omega
      rw [if_neg h, if_pos hx2, if_pos rfl]
      exact ih k (i + 1) (x + 1) 0 (by omega) (by omega) (by omega) (by omega) (by omega) (by omega) (by omega) (by omega)

theorem StampSteps : ∀ (a0_0 a0_1 : Int) (a1 : Int), ok25 ⟨a0_0, a0_1⟩ → (inI64 a1) → ∃ k, dovecotelaw01_StampSteps.f k a0_0 a0_1 a1 = some true := by
  intro p l n hpl hn
  have hp : 0 ≤ p := hpl.1.1
  have hl : 0 ≤ l := hpl.2.1
  obtain ⟨K, hK⟩ : ∃ K, K = 9002 := ⟨_, rfl⟩
  refine ⟨K + 1, ?_⟩
  unfold dovecotelaw01_StampSteps.f
  rw [awake_eq, Option.bind_some, if_pos rfl, right_eq, Option.bind_some]
  have yes : ∀ b : Bool, b = true → dovecotelaw01_StampSteps.j0 (K + 1) n b p l = some true := by
    intro b hb
    simp only [dovecotelaw01_StampSteps.j0]
    rw [if_pos hb]
  by_cases hr : right p l = true
  · obtain ⟨h1, h2⟩ := (right_iff p l).1 hr
    rw [if_pos hr]
    by_cases c1 : p > 140737488355328
    · rw [if_pos c1]; exact yes _ rfl
    rw [if_neg c1]
    by_cases c3 : n < 0
    · rw [if_pos c3]; exact yes _ rfl
    rw [if_neg c3]
    by_cases c4 : n > 9000
    · exact yes _ (by simpa using c4)
    · simp only [dovecotelaw01_StampSteps.j0]
      rw [if_neg (by simpa using c4)]
      exact steps n p l (by omega) (by omega) hp (by omega) hl h2 n.toNat K 0 p l (by omega) (by omega) (by omega) (by omega) hp hl h2 (by omega)
  · rw [if_neg hr]; exact yes _ rfl

end Go.Proofs.YthfaacheolhjnaaDoor.Pure
