/- What the bound of the second form gives: each text and slice of an argument takes at most 536870912 bytes; a seat's own text, no law of its own. -/
import Derived.Test.YtgkpljlcdopalaaRows
import Derived.SizedLaws
namespace Go.Proofs.Ytgkpljlcdopalaa.Bulk
set_option linter.unusedVariables false
theorem one_le {H : Type} (d : DataW H) : 1 ≤ Rows.uptoBulk d := by
  cases d with
  | lit l => cases l <;> simp [Rows.uptoBulk]
  | nil => simp [Rows.uptoBulk]
  | ptr d => simp [Rows.uptoBulk]
  | slice elems spare => simp [Rows.uptoBulk]
  | agg parts => simp [Rows.uptoBulk]
  | iface t d => simp [Rows.uptoBulk]
  | map entries => simp [Rows.uptoBulk]
  | held h => simp [Rows.uptoBulk]
theorem length_le {H : Type} (l : List (DataW H)) : l.length ≤ Rows.uptoBulkAll l := by
  induction l with
  | nil => simp [Rows.uptoBulkAll]
  | cons x r ih => have := one_le x; simp only [Rows.uptoBulkAll, List.length_cons]; omega
theorem part_le {H : Type} {d : DataW H} {l : List (DataW H)} (h : d ∈ l) : Rows.uptoBulk d ≤ Rows.uptoBulkAll l := by
  induction l with
  | nil => cases h
  | cons x r ih =>
    simp only [Rows.uptoBulkAll]
    cases List.mem_cons.1 h with
    | inl e => subst e; omega
    | inr e => have := ih e; omega
/-- Types of numbers, texts, structs and slices whose elements take at most 512 bytes. -/
def narrowB (P : Program) : (fuel : Nat) → TypeId → Bool
  | 0, _ => false
  | f + 1, t => match P.underlying t with
    | some .bool => true
    | some (.int _) => true
    | some .string => true
    | some (.slice e) => decide (P.bytesOf e ≤ 512) && narrowB P f e
    | some (.struct fs) => fs.toList.all fun x => narrowB P f x.type
    | _ => false
theorem le_left {n a b k : Nat} (h : n ≤ a * k) : n ≤ (a + b) * k := Nat.le_trans h (Nat.mul_le_mul_right _ (Nat.le_add_right _ _))
theorem le_right {n a b k : Nat} (h : n ≤ b * k) : n ≤ (a + b) * k := Nat.le_trans h (Nat.mul_le_mul_right _ (Nat.le_add_left _ _))
theorem le_one {n a b k : Nat} (h : n ≤ a * k) : n ≤ (a + b + 1) * k := Nat.le_trans h (Nat.mul_le_mul_right _ (by omega))
theorem le_two {n a b k : Nat} (h : n ≤ b * k) : n ≤ (a + b + 1) * k := Nat.le_trans h (Nat.mul_le_mul_right _ (by omega))
theorem le_len {m j a b k : Nat} (h1 : m ≤ a) (h2 : j ≤ b) : (m + j) * k ≤ (a + b + 1) * k := Nat.mul_le_mul_right _ (by omega)
theorem le_last {n a k : Nat} (h : n ≤ a * k) : n ≤ (a + 1) * k := Nat.le_trans h (Nat.mul_le_mul_right _ (by omega))
theorem le_all {n a b k m : Nat} (h : n ≤ a * k) (hb : a ≤ b) (hc : b ≤ m) : n ≤ m * k := Nat.le_trans h (Nat.mul_le_mul_right _ (by omega))
theorem all_le {H : Type} {P : Program} {e : TypeId} {l : List (DataW H)} (h : ∀ d ∈ l, ∀ n ∈ d.weights P e, n ≤ Rows.uptoBulk d * 512) : ∀ n ∈ DataW.weightsAll P e l, n ≤ Rows.uptoBulkAll l * 512 := by
  induction l with
  | nil => intro n hn; simp [DataW.weightsAll] at hn
  | cons d l ih =>
    intro n hn
    simp only [DataW.weightsAll, List.mem_append] at hn
    simp only [Rows.uptoBulkAll]
    rcases hn with hn | hn
    · exact le_left (h d (by simp) n hn)
    · exact le_right (ih (fun x hx => h x (by simp [hx])) n hn)
theorem each_le {H : Type} {P : Program} : ∀ (ts : List TypeId) (l : List (DataW H)), (∀ t ∈ ts, ∀ (d : DataW H), ∀ n ∈ d.weights P t, n ≤ Rows.uptoBulk d * 512) → ∀ n ∈ DataW.weightsEach P ts l, n ≤ Rows.uptoBulkAll l * 512
  | [], _, _, n, hn => by simp [DataW.weightsEach] at hn
  | _ :: _, [], _, n, hn => by simp [DataW.weightsEach] at hn
  | t :: ts, d :: l, h, n, hn => by
    simp only [DataW.weightsEach, List.mem_append] at hn
    simp only [Rows.uptoBulkAll]
    rcases hn with hn | hn
    · exact le_left (h t (by simp) d n hn)
    · exact le_right (each_le ts l (fun x hx => h x (by simp [hx])) n hn)
theorem weights_narrow {P : Program} : ∀ (f : Nat) (t : TypeId), narrowB P f t = true → ∀ {H : Type} (d : DataW H), ∀ n ∈ d.weights P t, n ≤ Rows.uptoBulk d * 512
  | 0, t, h => by simp [narrowB] at h
  | f + 1, t, h => by
    intro d n hn
    cases d with
    | lit l =>
      cases l with
      | string b =>
        simp only [DataW.weights, List.mem_singleton] at hn
        simp only [Rows.uptoBulk]
        subst hn
        exact Nat.le_trans (Nat.le_succ _) (Nat.le_mul_of_pos_right _ (by decide))
      | _ => simp [DataW.weights] at hn
    | nil => simp [DataW.weights] at hn
    | ptr d =>
      simp only [narrowB] at h
      simp only [DataW.weights] at hn
      split at hn <;> simp_all
    | slice elems spare =>
      simp only [narrowB] at h
      simp only [DataW.weights] at hn
      split at hn
      · rename_i e he
        rw [he] at h
        simp only [Bool.and_eq_true, decide_eq_true_eq] at h
        simp only [List.mem_cons, List.mem_append] at hn
        have h1 := length_le elems
        have h2 := length_le spare
        simp only [Rows.uptoBulk]
        rcases hn with rfl | hn | hn
        · exact Nat.le_trans (Nat.mul_le_mul_left _ h.1) (le_len h1 h2)
        · exact le_one (all_le (fun d _ => weights_narrow f e h.2 d) n hn)
        · exact le_two (all_le (fun d _ => weights_narrow f e h.2 d) n hn)
      · simp at hn
    | agg parts =>
      simp only [narrowB] at h
      simp only [DataW.weights] at hn
      split at hn
      · rename_i fs hfs
        rw [hfs] at h
        simp only [Rows.uptoBulk]
        have := each_le (fs.toList.map (·.type)) parts (fun x hx d => by
          obtain ⟨g, hg, rfl⟩ := List.mem_map.1 hx
          exact weights_narrow f g.type (List.all_eq_true.1 h g hg) d) n hn
        exact le_last this
      · rename_i hfs
        rw [hfs] at h
        simp at h
      · simp at hn
    | iface t d => simp [DataW.weights] at hn
    | map entries =>
      simp only [narrowB] at h
      simp only [DataW.weights] at hn
      split at hn <;> simp_all
    | held h => simp [DataW.weights] at hn
theorem each_narrow {P : Program} {fuel : Nat} {ts : List TypeId} (h : (ts.all (narrowB P fuel)) = true) {j : Nat} {t : TypeId} (ht : ts[j]? = some t) : ∃ f, narrowB P f t = true :=
  ⟨fuel, List.all_eq_true.1 h t (List.mem_of_getElem? ht)⟩
theorem weights_small {P : Program} {H : Type} {l : List (DataW H)} (hk : Rows.uptoSmall H l = true) {j : Nat} {d : DataW H} (hd : l[j]? = some d) {t : TypeId} (ht : ∃ f, narrowB P f t = true) : ∀ n ∈ d.weights P t, n ≤ 536870912 := by
  intro n hn
  obtain ⟨f, hf⟩ := ht
  have h1 := weights_narrow f t hf d n hn
  have h2 := part_le (List.mem_of_getElem? hd)
  have h3 : Rows.uptoBulkAll l ≤ 1048576 := by simpa [Rows.uptoSmall] using hk
  exact Nat.le_trans (le_all h1 h2 h3) (by decide)
end Go.Proofs.Ytgkpljlcdopalaa.Bulk
