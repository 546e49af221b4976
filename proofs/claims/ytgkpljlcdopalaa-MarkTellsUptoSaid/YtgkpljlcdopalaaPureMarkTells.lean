/- The pure law of MarkTells: over numbers and lists alone. -/
import Derived.Test.YtgkpljlcdopalaaPMarkTellsx5
import Derived.Test.YtgkpljlcdopalaaTyMarkTells
namespace Go.Proofs.Ytgkpljlcdopalaa.Pure
open Go.RowKit Go.Proofs.YtgkpljlcdopalaaW.PrintWords Go.Proofs.YtgkpljlcdopalaaW.PrintLast Go.Proofs.Ytgkpljlcdopalaa.PMarkTells Go.Proofs.Ytgkpljlcdopalaa.Shapes Go.Proofs.Ytgkpljlcdopalaa.TyMarkTells
set_option linter.unusedVariables false

def right (p l : Int) : Bool := decide (p ≤ 281474976710656) && decide (l ≤ 4095)
theorem right_eq (p l : Int) : stamp_Right.f p l = some (right p l) := by
  unfold stamp_Right.f right
  by_cases h : p ≤ 281474976710656 <;> simp [h]
theorem right_iff (p l : Int) : right p l = true ↔ p ≤ 281474976710656 ∧ l ≤ 4095 := by simp [right]
theorem wrap_u64 {n : Int} (h0 : 0 ≤ n) (h1 : n ≤ 18446744073709551615) : IntKind.u64.wrap n = n := by
  simp only [IntKind.wrap, IntKind.signed, IntKind.bits, Bool.false_and, Bool.false_eq_true, if_false]
  omega
theorem wrap_one {i : Int} {n : Int} (h0 : 0 ≤ i) (h1 : i < n) (hn : n ≤ 9223372036854775807) : wrap64 (i + 1) = i + 1 := by
  unfold wrap64
  omega

theorem or_eq (k : Nat) (hk : 3 ≤ k) (x y : Int) : cmp_Or_int.f k [x, y] = some (if x = 0 then y else x) := by
  obtain ⟨k, rfl⟩ : ∃ m, k = m + 3 := ⟨k - 3, by omega⟩
  have w1 : wrap64 (0 + 1) = 1 := by rw [wrap_one (n := 10) (by omega) (by omega) (by omega)]; rfl
  have w2 : wrap64 (1 + 1) = 2 := by rw [wrap_one (n := 10) (by omega) (by omega) (by omega)]; rfl
  have r0 : rd [x, y] 0 = x := rfl
  have r1 : rd [x, y] 1 = y := rfl
  have hl : (([x, y] : List Int).length : Int) = 2 := rfl
  unfold cmp_Or_int.f
  rw [hl]
  unfold cmp_Or_int.l0
  rw [if_pos (by omega), if_pos (by omega), hl, if_pos (by omega), r0, w1]
  by_cases h : x = 0
  · rw [if_pos h, if_pos h]
    unfold cmp_Or_int.l0
    rw [if_pos (by omega), if_pos (by omega), hl, if_pos (by omega), r1, w2]
    by_cases h' : y = 0
    · rw [if_pos h']
      unfold cmp_Or_int.l0
      rw [if_neg (by omega), h']
    · rw [if_neg h']
  · rw [if_neg h, if_neg h]
theorem cmp64_eq (a b : Int) : cmp_Compare_uint64.f a b = some (if a < b then -1 else if b < a then 1 else 0) := by
  unfold cmp_Compare_uint64.f cmp_isNaN_uint64.f
  simp only [bne_self_eq_false, Option.bind_some, Bool.false_eq_true, if_false]
  by_cases h : a < b
  · rw [if_pos h, if_pos h]
  · rw [if_neg h, if_neg h]
    by_cases h' : b < a
    · rw [if_pos h', if_pos h']
    · rw [if_neg h', if_neg h']
theorem cmp32_eq (a b : Int) : cmp_Compare_uint32.f a b = some (if a < b then -1 else if b < a then 1 else 0) := by
  unfold cmp_Compare_uint32.f cmp_isNaN_uint32.f
  simp only [bne_self_eq_false, Option.bind_some, Bool.false_eq_true, if_false]
  by_cases h : a < b
  · rw [if_pos h, if_pos h]
  · rw [if_neg h, if_neg h]
    by_cases h' : b < a
    · rw [if_pos h', if_pos h']
    · rw [if_neg h', if_neg h']
def less (a b c d : Int) : Bool := decide (a < c ∨ a = c ∧ b < d)
theorem less_eq {k : Nat} (hk : 3 ≤ k) (a b c d : Int) : stamp_Less.f k a b c d = some (less a b c d) := by
  unfold stamp_Less.f less
  rw [cmp64_eq, Option.bind_some, cmp32_eq, Option.bind_some, or_eq k hk, Option.bind_some]
  congr 1
  rw [decide_eq_decide]
  split <;> split <;> (try split) <;> (try split) <;> omega
theorem less_iff (a b c d : Int) : less a b c d = true ↔ (a < c ∨ a = c ∧ b < d) := by simp [less]

theorem rd_25 (x y : S25) : rd_T25 [x, y] 0 = x ∧ rd_T25 [x, y] 1 = y := ⟨rfl, rfl⟩
/-- The greatest of two, as the loop over them tells it. -/
def max2 (a b c d : Int) : Int × Int := if less a b c d = true then (c, d) else (a, b)
theorem max_eq {k : Nat} (hk : 8 ≤ k) {a b c d : Int} (ha : 0 ≤ a) (hb : 0 ≤ b) (hc : 0 ≤ c) (hd : 0 ≤ d) : stamp_Max.f k [⟨a, b⟩, ⟨c, d⟩] = some (max2 a b c d) := by
  obtain ⟨k, rfl⟩ : ∃ m, k = m + 3 := ⟨k - 3, by omega⟩
  have w1 : wrap64 (0 + 1) = 1 := by rw [wrap_one (n := 10) (by omega) (by omega) (by omega)]; rfl
  have w2 : wrap64 (1 + 1) = 2 := by rw [wrap_one (n := 10) (by omega) (by omega) (by omega)]; rfl
  obtain ⟨r0, r1⟩ := rd_25 ⟨a, b⟩ ⟨c, d⟩
  have hl : (([⟨a, b⟩, ⟨c, d⟩] : List S25).length : Int) = 2 := rfl
  have step : ∀ p l : Int, stamp_Max.l0 (k + 2) [⟨a, b⟩, ⟨c, d⟩] 2 1 p l = some (if less p l c d = true then (c, d) else (p, l)) := by
    intro p l
    unfold stamp_Max.l0
    rw [if_pos (by omega), if_pos (by omega), hl, if_pos (by omega), r1, w2, less_eq (by omega), Option.bind_some]
    by_cases h : less p l c d = true
    · rw [if_pos h, if_pos h]
      unfold stamp_Max.l0
      rw [if_neg (by omega)]
    · rw [if_neg h, if_neg h]
      unfold stamp_Max.l0
      rw [if_neg (by omega)]
  unfold stamp_Max.f
  rw [hl]
  unfold stamp_Max.l0
  rw [if_pos (by omega), if_pos (by omega), hl, if_pos (by omega), r0, w1, less_eq (by omega), Option.bind_some]
  by_cases h : less 0 0 a b = true
  · rw [if_pos h]
    exact step a b
  · rw [if_neg h, step]
    have e : a = 0 ∧ b = 0 := by
      rw [less_iff] at h
      omega
    rw [e.1, e.2]
    rfl

theorem rright_eq (p l : Int) : dovecoteref01_Right.f p l = some (right p l) := by
  unfold dovecoteref01_Right.f right
  by_cases h : p ≤ 281474976710656 <;> simp [h]
theorem rless_eq (a b c d : Int) : dovecoteref01_Less.f a b c d = some (less a b c d) := by
  unfold dovecoteref01_Less.f less
  by_cases h : a < c
  · rw [if_pos h]
    congr 1
    exact (decide_eq_true (.inl h)).symm
  · rw [if_neg h]
    by_cases h' : a = c
    · rw [if_pos h']
      congr 1
      rw [decide_eq_decide]
      omega
    · rw [if_neg h']
      congr 1
      exact (decide_eq_false (by omega)).symm
theorem rmax_eq (a b c d : Int) : dovecoteref01_Max.f a b c d = some (max2 a b c d) := by
  unfold dovecoteref01_Max.f max2
  rw [rless_eq, Option.bind_some]
  split <;> rfl

/-! ### the least of the right stamps, as a fold -/
def lstep (s : Int × Int × Bool) (x : S25) : Int × Int × Bool := if right x.f0 x.f1 = true ∧ (s.2.2 = false ∨ less x.f0 x.f1 s.1 s.2.1 = true) then (x.f0, x.f1, true) else s
def least (l : List S25) : Int × Int × Bool := l.foldl lstep (0, 0, false)
theorem drop_rd (l : List S25) (i : Int) (h0 : 0 ≤ i) (h1 : i < l.length) : l.drop i.toNat = rd_T25 l i :: l.drop (i + 1).toNat := by
  have h : i.toNat < l.length := by omega
  rw [List.drop_eq_getElem_cons h]
  unfold rd_T25
  rw [List.getD_eq_getElem?_getD, List.getElem?_eq_getElem h, Option.getD_some, show (i + 1).toNat = i.toNat + 1 by omega]
theorem lstep_eq (s : Int × Int × Bool) (x : S25) : lstep s x = if right x.f0 x.f1 = true then (if s.2.2 = true then (if less x.f0 x.f1 s.1 s.2.1 = true then (x.f0, x.f1, true) else s) else (x.f0, x.f1, true)) else s := by
  unfold lstep
  by_cases h1 : right x.f0 x.f1 = true <;> by_cases h2 : s.2.2 = true <;> by_cases h3 : less x.f0 x.f1 s.1 s.2.1 = true <;> simp [h1, h2, h3]
theorem least_loop (l : List S25) (hl : l.length ≤ 8796093022208) (d : Nat) : ∀ (k : Nat) (i a b : Int) (f : Bool), 0 ≤ i → i ≤ l.length → (l.length : Int) - i = d → d + 4 < k →
    mark_Least.l0 k f l l.length i a b = some ((l.drop i.toNat).foldl lstep (a, b, f)) := by
  induction d with
  | zero =>
    intro k i a b f h0 h1 hd hk
    obtain ⟨k, rfl⟩ : ∃ m, k = m + 1 := ⟨k - 1, by omega⟩
    unfold mark_Least.l0
    rw [if_neg (by omega), List.drop_eq_nil_of_le (by omega)]
    rfl
  | succ d ih =>
    intro k i a b f h0 h1 hd hk
    obtain ⟨k, rfl⟩ : ∃ m, k = m + 1 := ⟨k - 1, by omega⟩
    unfold mark_Least.l0
    have hw : wrap64 (i + 1) = i + 1 := wrap_one (n := 8796093022208) h0 (by omega) (by omega)
    rw [if_pos (by omega), if_pos h0, if_pos (by omega), right_eq, Option.bind_some, drop_rd l i h0 (by omega), List.foldl_cons, hw, lstep_eq]
    have step : ∀ a b f, mark_Least.l0 k f l l.length (i + 1) a b = some ((l.drop (i + 1).toNat).foldl lstep (a, b, f)) := fun a b f => ih k (i + 1) a b f (by omega) (by omega) (by omega) (by omega)
    by_cases h2 : right (rd_T25 l i).f0 (rd_T25 l i).f1 = true
    · rw [if_pos h2, if_pos h2]
      by_cases h3 : f = true
      · rw [if_pos h3, if_pos h3, less_eq (by omega), Option.bind_some]
        by_cases h4 : less (rd_T25 l i).f0 (rd_T25 l i).f1 a b = true
        · rw [if_pos h4, if_pos h4, step]
        · rw [if_neg h4, if_neg h4, step]
      · rw [if_neg h3, if_neg h3, step]
    · rw [if_neg h2, if_neg h2, step]
theorem least_eq {k : Nat} {l : List S25} (hl : l.length ≤ 8796093022208) (hk : l.length + 4 < k) : mark_Least.f k l = some (least l) := by
  unfold mark_Least.f
  rw [least_loop l hl l.length k 0 0 0 false (by omega) (by omega) (by omega) hk]
  rfl
/-- What the least is: nobody's, where none is right; else one of the right ones, and none of them is ahead of it. -/
def IsLeast (l : List S25) (s : Int × Int × Bool) : Prop :=
  (s = (0, 0, false) ∧ ∀ x ∈ l, right x.f0 x.f1 = false) ∨ (s.2.2 = true ∧ (∃ x ∈ l, right x.f0 x.f1 = true ∧ x.f0 = s.1 ∧ x.f1 = s.2.1) ∧ ∀ x ∈ l, right x.f0 x.f1 = true → less x.f0 x.f1 s.1 s.2.1 = false)
theorem lstep_least {l : List S25} {s : Int × Int × Bool} (h : IsLeast l s) (x : S25) : IsLeast (l ++ [x]) (lstep s x) := by
  rw [lstep_eq]
  by_cases hr : right x.f0 x.f1 = true
  · rw [if_pos hr]
    rcases h with ⟨rfl, hn⟩ | ⟨hs, ⟨y, hy, hyr, hy0, hy1⟩, hm⟩
    · rw [if_neg (by decide)]
      refine .inr ⟨rfl, ⟨x, by simp, hr, rfl, rfl⟩, fun z hz hzr => ?_⟩
      rcases List.mem_append.1 hz with hz | hz
      · rw [hn z hz] at hzr
        cases hzr
      · obtain rfl := List.mem_singleton.1 hz
        exact decide_eq_false (by first | omega | (dsimp only; omega))
    · rw [if_pos hs]
      by_cases hx : less x.f0 x.f1 s.1 s.2.1 = true
      · rw [if_pos hx]
        refine .inr ⟨rfl, ⟨x, by simp, hr, rfl, rfl⟩, fun z hz hzr => ?_⟩
        rcases List.mem_append.1 hz with hz | hz
        · have h1 := hm z hz hzr
          have h1' : ¬ (z.f0 < s.1 ∨ z.f0 = s.1 ∧ z.f1 < s.2.1) := by rw [← less_iff, h1]; simp
          have h2' := (less_iff _ _ _ _).1 hx
          exact decide_eq_false (by first | omega | (dsimp only; omega))
        · obtain rfl := List.mem_singleton.1 hz
          exact decide_eq_false (by first | omega | (dsimp only; omega))
      · rw [if_neg hx]
        refine .inr ⟨hs, ⟨y, by simp [hy], hyr, hy0, hy1⟩, fun z hz hzr => ?_⟩
        rcases List.mem_append.1 hz with hz | hz
        · exact hm z hz hzr
        · obtain rfl := List.mem_singleton.1 hz
          simpa using hx
  · rw [if_neg hr]
    rcases h with ⟨rfl, hn⟩ | ⟨hs, ⟨y, hy, hyr, hy0, hy1⟩, hm⟩
    · refine .inl ⟨rfl, fun z hz => ?_⟩
      rcases List.mem_append.1 hz with hz | hz
      · exact hn z hz
      · obtain rfl := List.mem_singleton.1 hz
        simpa using hr
    · refine .inr ⟨hs, ⟨y, by simp [hy], hyr, hy0, hy1⟩, fun z hz hzr => ?_⟩
      rcases List.mem_append.1 hz with hz | hz
      · exact hm z hz hzr
      · obtain rfl := List.mem_singleton.1 hz
        exact absurd hzr hr
theorem fold_least (m : List S25) : ∀ (l : List S25) (s : Int × Int × Bool), IsLeast l s → IsLeast (l ++ m) (m.foldl lstep s) := by
  induction m with
  | nil => intro l s h; simpa using h
  | cons x m ih =>
    intro l s h
    have := ih (l ++ [x]) _ (lstep_least h x)
    simpa using this
theorem isLeast (l : List S25) : IsLeast l (least l) := by
  have := fold_least l [] (0, 0, false) (.inl ⟨rfl, by simp⟩)
  simpa [least] using this
theorem least_unique {l m : List S25} {s t : Int × Int × Bool} (hlm : ∀ x, x ∈ l ↔ x ∈ m) (hs : IsLeast l s) (ht : IsLeast m t) : s = t := by
  rcases hs with ⟨rfl, hn⟩ | ⟨hs, ⟨y, hy, hyr, hy0, hy1⟩, hm⟩
  · rcases ht with ⟨rfl, _⟩ | ⟨_, ⟨y, hy, hyr, _⟩, _⟩
    · rfl
    · rw [hn y ((hlm y).2 hy)] at hyr
      cases hyr
  · rcases ht with ⟨rfl, hn'⟩ | ⟨ht, ⟨z, hz, hzr, hz0, hz1⟩, hm'⟩
    · rw [hn' y ((hlm y).1 hy)] at hyr
      cases hyr
    · have h1 := hm z ((hlm z).2 hz) hzr
      have h2 := hm' y ((hlm y).1 hy) hyr
      have h1' : ¬ (z.f0 < s.1 ∨ z.f0 = s.1 ∧ z.f1 < s.2.1) := by rw [← less_iff, h1]; simp
      have h2' : ¬ (y.f0 < t.1 ∨ y.f0 = t.1 ∧ y.f1 < t.2.1) := by rw [← less_iff, h2]; simp
      obtain ⟨s0, s1, s2⟩ := s
      obtain ⟨t0, t1, t2⟩ := t
      simp only at *
      have e0 : s0 = t0 := by omega
      have e1 : s1 = t1 := by omega
      rw [e0, e1, hs, ht]
theorem least_ext {l m : List S25} (hlm : ∀ x, x ∈ l ↔ x ∈ m) : least l = least m := least_unique hlm (isLeast l) (isLeast m)
/-- Of two lists: the lesser of both. -/
def both (s t : Int × Int × Bool) : Int × Int × Bool := if s.2.2 = true then (if t.2.2 = true ∧ less t.1 t.2.1 s.1 s.2.1 = true then t else s) else t
theorem least_both (l m : List S25) : least (l ++ m) = both (least l) (least m) := by
  refine least_unique (fun _ => Iff.rfl) (isLeast _) ?_
  have hl := isLeast l
  have hm := isLeast m
  generalize least l = s at hl
  generalize least m = t at hm
  unfold both
  rcases hl with ⟨rfl, hn⟩ | ⟨hs, ⟨y, hy, hyr, hy0, hy1⟩, hmm⟩
  · rw [if_neg (by decide)]
    rcases hm with ⟨rfl, hn'⟩ | ⟨ht, ⟨z, hz, hzr, hz0, hz1⟩, hm'⟩
    · exact .inl ⟨rfl, fun x hx => (List.mem_append.1 hx).elim (hn x) (hn' x)⟩
    · refine .inr ⟨ht, ⟨z, by simp [hz], hzr, hz0, hz1⟩, fun x hx hxr => ?_⟩
      rcases List.mem_append.1 hx with hx | hx
      · rw [hn x hx] at hxr; cases hxr
      · exact hm' x hx hxr
  · rw [if_pos hs]
    rcases hm with ⟨rfl, hn'⟩ | ⟨ht, ⟨z, hz, hzr, hz0, hz1⟩, hm'⟩
    · rw [if_neg (by simp)]
      refine .inr ⟨hs, ⟨y, by simp [hy], hyr, hy0, hy1⟩, fun x hx hxr => ?_⟩
      rcases List.mem_append.1 hx with hx | hx
      · exact hmm x hx hxr
      · rw [hn' x hx] at hxr; cases hxr
    · by_cases hlt : less t.1 t.2.1 s.1 s.2.1 = true
      · rw [if_pos ⟨ht, hlt⟩]
        refine .inr ⟨ht, ⟨z, by simp [hz], hzr, hz0, hz1⟩, fun x hx hxr => ?_⟩
        rcases List.mem_append.1 hx with hx | hx
        · have h1 := hmm x hx hxr
          have h1' : ¬ (x.f0 < s.1 ∨ x.f0 = s.1 ∧ x.f1 < s.2.1) := by rw [← less_iff, h1]; simp
          have h2' := (less_iff _ _ _ _).1 hlt
          exact decide_eq_false (by first | omega | (dsimp only; omega))
        · exact hm' x hx hxr
      · rw [if_neg (by simp [hlt])]
        refine .inr ⟨hs, ⟨y, by simp [hy], hyr, hy0, hy1⟩, fun x hx hxr => ?_⟩
        rcases List.mem_append.1 hx with hx | hx
        · exact hmm x hx hxr
        · have h1 := hm' x hx hxr
          have h1' : ¬ (x.f0 < t.1 ∨ x.f0 = t.1 ∧ x.f1 < t.2.1) := by rw [← less_iff, h1]; simp
          have h2' : ¬ (t.1 < s.1 ∨ t.1 = s.1 ∧ t.2.1 < s.2.1) := by rw [← less_iff]; exact hlt
          exact decide_eq_false (by first | omega | (dsimp only; omega))
theorem least_nonneg {l : List S25} (hl : ∀ x ∈ l, ok25 x) : 0 ≤ (least l).1 ∧ 0 ≤ (least l).2.1 := by
  rcases isLeast l with ⟨h, _⟩ | ⟨_, ⟨y, hy, _, hy0, hy1⟩, _⟩
  · rw [h]
    exact ⟨Int.le_refl 0, Int.le_refl 0⟩
  · have := hl y hy
    have h0 : 0 ≤ y.f0 := this.1.1
    have h1 : 0 ≤ y.f1 := this.2.1
    omega
/-- The safe time out of the old one (right) and of all that is told. -/
def safe (a b : Int) (s : Int × Int × Bool) : Int × Int := max2 a b s.1 s.2.1
theorem safe_j {k : Nat} {l1 l2 : List S25} {a b : Int} (h1 : l1.length ≤ 8796093022208) (h2 : l2.length ≤ 8796093022208) (hk : l1.length + l2.length + 20 < k) (ok1 : ∀ x ∈ l1, ok25 x) (ok2 : ∀ x ∈ l2, ok25 x) (ha : 0 ≤ a) (hb : 0 ≤ b) :
    mark_Safe.j0 k l1 l2 a b = some (safe a b (least (l1 ++ l2))) := by
  obtain ⟨k, rfl⟩ : ∃ m, k = m + 2 := ⟨k - 2, by omega⟩
  have n1 := least_nonneg ok1
  have n2 := least_nonneg ok2
  simp only [mark_Safe.j0]
  rw [least_eq h1 (by omega), Option.bind_some, least_eq h2 (by omega), Option.bind_some, least_both]
  generalize least l1 = s at *
  generalize least l2 = t at *
  unfold both safe
  by_cases c1 : s.2.2 = true
  · rw [if_pos c1, if_pos c1]
    by_cases c2 : t.2.2 = true
    · rw [if_pos c2, less_eq (by omega), Option.bind_some]
      simp only [mark_Safe.j1]
      by_cases c3 : less t.1 t.2.1 s.1 s.2.1 = true
      · rw [if_pos c3, max_eq (by omega) ha hb n2.1 n2.2, Option.bind_some, if_pos ⟨c2, c3⟩]
      · rw [if_neg c3, if_pos c1, max_eq (by omega) ha hb n1.1 n1.2, Option.bind_some, if_neg (by simp [c3])]
    · rw [if_neg c2]
      simp only [mark_Safe.j1, Bool.false_eq_true, if_false]
      rw [if_pos c1, max_eq (by omega) ha hb n1.1 n1.2, Option.bind_some, if_neg (by simp [c2])]
  · rw [if_neg c1, if_neg c1]
    simp only [mark_Safe.j1, Bool.false_eq_true, if_false]
    rw [if_neg c1, max_eq (by omega) ha hb n2.1 n2.2, Option.bind_some]
def base (a b : Int) : Int × Int := if right a b = true then (a, b) else (0, 0)
theorem safe_eq {k : Nat} {l1 l2 : List S25} {a b : Int} (h1 : l1.length ≤ 8796093022208) (h2 : l2.length ≤ 8796093022208) (hk : l1.length + l2.length + 20 < k) (ok1 : ∀ x ∈ l1, ok25 x) (ok2 : ∀ x ∈ l2, ok25 x) (ha : 0 ≤ a) (hb : 0 ≤ b) :
    mark_Safe.f k a b l1 l2 = some (safe (base a b).1 (base a b).2 (least (l1 ++ l2))) := by
  unfold mark_Safe.f base
  rw [right_eq, Option.bind_some]
  by_cases h : right a b = true
  · rw [if_pos h, if_pos h, safe_j h1 h2 hk ok1 ok2 ha hb]
  · rw [if_neg h, if_neg h, safe_j h1 h2 hk ok1 ok2 (Int.le_refl 0) (Int.le_refl 0)]
theorem awake_eq {k : Nat} (hk : 30 < k) : dovecotelaw18_awake.f k = some true := by
  unfold dovecotelaw18_awake.f
  have e1 : ok25 ⟨9, 0⟩ := by simp [ok25, inU64, inU32]
  have e2 : ok25 ⟨5, 1⟩ := by simp [ok25, inU64, inU32]
  have e3 : ok25 ⟨7, 0⟩ := by simp [ok25, inU64, inU32]
  rw [safe_eq (by simp) (by simp) (by simp; omega) (by intro x hx; simp at hx; rcases hx with rfl | rfl <;> assumption) (by intro x hx; simp at hx; subst hx; assumption) (by omega) (by omega), Option.bind_some]
  decide
theorem safe_zero {a b : Int} (ha : 0 ≤ a) (hb : 0 ≤ b) : max2 a b 0 0 = (a, b) := by
  unfold max2
  rw [if_neg (by rw [less_iff]; omega)]

theorem rleast_loop (l : List S25) (hl : l.length ≤ 8796093022208) (d : Nat) : ∀ (k : Nat) (i a b : Int) (f : Bool), 0 ≤ i → i ≤ l.length → (l.length : Int) - i = d → d + 4 < k →
    dovecoteref18_Least.l0 k l f i a b = some ((l.drop i.toNat).foldl lstep (a, b, f)) := by
  induction d with
  | zero =>
    intro k i a b f h0 h1 hd hk
    obtain ⟨k, rfl⟩ : ∃ m, k = m + 1 := ⟨k - 1, by omega⟩
    unfold dovecoteref18_Least.l0
    rw [if_neg (by omega), List.drop_eq_nil_of_le (by omega)]
    rfl
  | succ d ih =>
    intro k i a b f h0 h1 hd hk
    obtain ⟨k, rfl⟩ : ∃ m, k = m + 1 := ⟨k - 1, by omega⟩
    unfold dovecoteref18_Least.l0
    have hw : wrap64 (i + 1) = i + 1 := wrap_one (n := 8796093022208) h0 (by omega) (by omega)
    rw [if_pos (by omega), if_pos h0, rright_eq, Option.bind_some, drop_rd l i h0 (by omega), List.foldl_cons, hw, lstep_eq]
    have step : ∀ a b f, dovecoteref18_Least.l0 k l f (i + 1) a b = some ((l.drop (i + 1).toNat).foldl lstep (a, b, f)) := fun a b f => ih k (i + 1) a b f (by omega) (by omega) (by omega) (by omega)
    by_cases h2 : right (rd_T25 l i).f0 (rd_T25 l i).f1 = true
    · rw [if_pos h2, if_pos h2]
      by_cases h3 : f = true
      · rw [if_pos h3, if_pos h3, rless_eq, Option.bind_some]
        by_cases h4 : less (rd_T25 l i).f0 (rd_T25 l i).f1 a b = true
        · rw [if_pos h4, if_pos h4, step]
        · rw [if_neg h4, if_neg h4, step]
      · rw [if_neg h3, if_neg h3, step]
    · rw [if_neg h2, if_neg h2, step]
theorem rleast_eq {k : Nat} {l : List S25} (hl : l.length ≤ 8796093022208) (hk : l.length + 4 < k) : dovecoteref18_Least.f k l = some (least l) := by
  unfold dovecoteref18_Least.f
  rw [rleast_loop l hl l.length k 0 0 0 false (by omega) (by omega) (by omega) hk]
  rfl
theorem rsafe_j {k : Nat} {l : List S25} {a b : Int} (h1 : l.length ≤ 8796093022208) (hk : l.length + 20 < k) (ha : 0 ≤ a) (hb : 0 ≤ b) :
    dovecoteref18_Safe.j0 k l a b = some (safe a b (least l)) := by
  obtain ⟨k, rfl⟩ : ∃ m, k = m + 1 := ⟨k - 1, by omega⟩
  simp only [dovecoteref18_Safe.j0]
  rw [rleast_eq h1 (by omega), Option.bind_some]
  unfold safe
  by_cases h : (least l).2.2 = true
  · rw [if_pos h, rmax_eq, Option.bind_some]
  · rw [if_neg h]
    rcases isLeast l with ⟨e, _⟩ | ⟨e, _⟩
    · rw [e, safe_zero ha hb]
    · exact absurd e h
theorem rsafe_eq {k : Nat} {l1 l2 : List S25} {a b : Int} (h1 : l1.length ≤ 4398046511104) (h2 : l2.length ≤ 4398046511103) (hk : l1.length + l2.length + 20 < k) (ha : 0 ≤ a) (hb : 0 ≤ b) :
    dovecoteref18_Safe.f k a b l1 l2 = some (safe (base a b).1 (base a b).2 (least (l1 ++ l2))) := by
  unfold dovecoteref18_Safe.f base
  rw [if_pos (by simp; omega), Option.bind_some, List.nil_append, if_pos (by omega), Option.bind_some, rright_eq, Option.bind_some]
  by_cases h : right a b = true
  · rw [if_pos h, if_pos h, rsafe_j (by simp; omega) (by simp; omega) ha hb]
  · rw [if_neg h, if_neg h, rsafe_j (by simp; omega) (by simp; omega) (Int.le_refl 0) (Int.le_refl 0)]

theorem MarkTells : ∀ (a0_0 a0_1 : Int) (l1 : List S25) (l2 : List S25), ok25 ⟨a0_0, a0_1⟩ → l1.length * Try.prog.bytesOf 25 ≤ 536870912 → (∀ a ∈ l1, ok25 a) → l2.length * Try.prog.bytesOf 25 ≤ 536870912 → (∀ a ∈ l2, ok25 a) → ∃ k, dovecotelaw18_MarkTells.f k a0_0 a0_1 l1 l2 = some true := by
  intro a b l1 l2 hab y1 w1 y2 w2
  have ha : 0 ≤ a := hab.1.1
  have hb : 0 ≤ b := hab.2.1
  have e : Try.prog.bytesOf 25 = 16 := by kernel_rfl
  rw [e] at y1 y2
  refine ⟨l1.length + l2.length + 40, ?_⟩
  unfold dovecotelaw18_MarkTells.f
  rw [awake_eq (by omega), Option.bind_some, if_pos rfl, least_eq (by omega) (by omega), Option.bind_some, rleast_eq (by omega) (by omega), Option.bind_some, if_pos (by simp), if_pos (by simp),
    safe_eq (by omega) (by omega) (by omega) w1 w2 ha hb, Option.bind_some, rsafe_eq (by omega) (by omega) (by omega) ha hb, Option.bind_some]
  simp

end Go.Proofs.Ytgkpljlcdopalaa.Pure
