/- What the layer 'chain' does to rows of versions, with no program in sight; a seat's own text, no law of its own. -/
import Derived.Test.YtomcjcoehahikaaMStoreRunsx7
import Derived.Test.YtomcjcoehahikaaMStoreRunsx8
namespace Go.Proofs.Ytomcjcoehahikaa.Sto
open Go.RowKit Go.Proofs.YtomcjcoehahikaaW.PrintWords Go.Proofs.YtomcjcoehahikaaW.PrintLast Go.Proofs.Ytomcjcoehahikaa.MStoreRuns
set_option linter.unusedVariables false
set_option linter.unusedSimpArgs false
/-! stamps, versions, chains -/
theorem less_iff (a b c d : Int) : pl_less a b c d = true ↔ (a < c ∨ a = c ∧ b < d) := by simp [pl_less]
def lessV (x y : S31) : Prop := x.f0.f0 < y.f0.f0 ∨ x.f0.f0 = y.f0.f0 ∧ x.f0.f1 < y.f0.f1
theorem lessV_trans {x y z : S31} (h1 : lessV x y) (h2 : lessV y z) : lessV x z := by unfold lessV at *; omega
theorem lessV_irrefl (x : S31) : ¬ lessV x x := by unfold lessV; omega
theorem lessV_asymm {x y : S31} (h : lessV x y) : ¬ lessV y x := by unfold lessV at *; omega
def atV (x y : S31) : Prop := x.f0.f0 = y.f0.f0 ∧ x.f0.f1 = y.f0.f1
def fitsB (x : S31) : Bool := decide (x.f0.f0 ≤ 281474976710656 ∧ x.f0.f1 ≤ 4095 ∧ x.f2.size ≤ 256 ∧ (x.f3 = true → x.f2.toList = []))
theorem fits_eq (x : S31) : chain_fits.f x.f0.f0 x.f0.f1 x.f1.f0 x.f1.f1 x.f2 x.f3 = some (fitsB x) := by
  unfold chain_fits.f stamp_Right.f fitsB
  by_cases h1 : x.f0.f0 ≤ 281474976710656
  · by_cases h2 : x.f0.f1 ≤ 4095
    · by_cases h3 : x.f2.size ≤ 256
      · have h3' : (x.f2.size : Int) ≤ 256 := by omega
        cases h4 : x.f3 with
        | true => cases h5 : x.f2.toList <;> simp [h1, h2, h3, h3']
        | false => simp [h1, h2, h3, h3']
      · have h3' : ¬ (x.f2.size : Int) ≤ 256 := by omega
        simp [h1, h2, h3, h3']
    · simp [h1, h2]
  · simp [h1]
def gt (l : List S31) (j : Nat) : S31 := l.getD j z31
theorem gt_get (l : List S31) (j : Nat) (h : j < l.length) : gt l j = l[j] := by unfold gt; rw [List.getD_eq_getElem?_getD, List.getElem?_eq_getElem h]; rfl
theorem rd_gt (l : List S31) (j : Nat) : rd_T31 l (j : Int) = gt l j := by unfold rd_T31 gt; rw [Int.toNat_natCast]
def okAt (l : List S31) (j : Nat) : Prop := fitsB (gt l j) = true ∧ (0 < j → lessV (gt l j) (gt l (j - 1)))
theorem w64 {i : Nat} (h : i ≤ 1000000000000) : wrap64 ((i : Int) + 1) = ((i + 1 : Nat) : Int) := by unfold wrap64; omega
theorem w64' {i : Nat} (h : i ≤ 1000000000000) (h0 : 0 < i) : wrap64 ((i : Int) - 1) = ((i - 1 : Nat) : Int) := by unfold wrap64; omega
theorem right_step {k : Nat} (hk : 3 ≤ k) (l : List S31) (hl : l.length ≤ 1000000000) (i : Nat) (hi : i < l.length) : (okAt l i → chain_Right.l0 (k + 1) l l (l.length : Int) i = chain_Right.l0 k l l (l.length : Int) ((i + 1 : Nat) : Int)) ∧ (¬ okAt l i → chain_Right.l0 (k + 1) l l (l.length : Int) i = some false) := by
  have e : chain_Right.l0 (k + 1) l l (l.length : Int) i = (if fitsB (gt l i) = true then (if (i : Int) > 0 then (if pl_less (gt l i).f0.f0 (gt l i).f0.f1 (gt l (i - 1)).f0.f0 (gt l (i - 1)).f0.f1 = true then chain_Right.l0 k l l (l.length : Int) ((i + 1 : Nat) : Int) else some false) else chain_Right.l0 k l l (l.length : Int) ((i + 1 : Nat) : Int)) else some false) := by
    simp only [chain_Right.l0]
    rw [if_pos (by omega), if_pos (by omega), if_pos (by omega), rd_gt, fits_eq, Option.bind_some, w64 (by omega)]
    by_cases h0 : 0 < i
    · rw [w64' (by omega) h0, rd_gt, pl_less_eq hk, Option.bind_some, if_pos (c := 0 ≤ ((i - 1 : Nat) : Int)) (by omega), if_pos (c := ((i - 1 : Nat) : Int) < (l.length : Int)) (by omega)]
    · rw [if_neg (c := (i : Int) > 0) (by omega), if_neg (c := (i : Int) > 0) (by omega)]
  rw [e]
  unfold okAt
  refine ⟨fun h => ?_, fun h => ?_⟩
  · rw [if_pos h.1]
    by_cases h0 : 0 < i
    · rw [if_pos (by omega), if_pos ((less_iff _ _ _ _).2 (h.2 h0))]
    · rw [if_neg (by omega)]
  · by_cases h1 : fitsB (gt l i) = true
    · rw [if_pos h1]
      have h2 : 0 < i ∧ ¬ lessV (gt l i) (gt l (i - 1)) := by
        refine ⟨Classical.byContradiction fun z => h ⟨h1, fun z' => absurd z' z⟩, fun z => h ⟨h1, fun _ => z⟩⟩
      rw [if_pos (by omega), if_neg (fun z => h2.2 ((less_iff _ _ _ _).1 z))]
    · rw [if_neg h1]
theorem right_T (l : List S31) (hl : l.length ≤ 1000000000) : ∀ d i k, i + d = l.length → d + 3 < k → (∀ j, i ≤ j → j < l.length → okAt l j) → chain_Right.l0 k l l (l.length : Int) i = some (decide ((l.length : Int) ≤ 1000)) := by
  intro d
  induction d with
  | zero =>
    intro i k h hk _
    obtain ⟨k, rfl⟩ : ∃ m, k = m + 1 := ⟨k - 1, by omega⟩
    simp only [chain_Right.l0]
    rw [if_neg (by omega)]
  | succ d ih =>
    intro i k h hk ho
    obtain ⟨k, rfl⟩ : ∃ m, k = m + 1 := ⟨k - 1, by omega⟩
    rw [(right_step (by omega) l hl i (by omega)).1 (ho i (Nat.le_refl _) (by omega))]
    exact ih (i + 1) k (by omega) (by omega) (fun j h1 h2 => ho j (by omega) h2)
theorem right_F (l : List S31) (hl : l.length ≤ 1000000000) : ∀ d i k, i + d = l.length → d + 3 < k → (∃ j, i ≤ j ∧ j < l.length ∧ ¬ okAt l j) → chain_Right.l0 k l l (l.length : Int) i = some false := by
  intro d
  induction d with
  | zero =>
    intro i k h hk ⟨j, h1, h2, _⟩
    omega
  | succ d ih =>
    intro i k h hk ⟨j, h1, h2, h3⟩
    obtain ⟨k, rfl⟩ : ∃ m, k = m + 1 := ⟨k - 1, by omega⟩
    by_cases ho : okAt l i
    · rw [(right_step (by omega) l hl i (by omega)).1 ho]
      refine ih (i + 1) k (by omega) (by omega) ⟨j, ?_, h2, h3⟩
      rcases Nat.lt_or_ge i j with h4 | h4
      · omega
      · exact absurd (show okAt l j by rw [show j = i by omega]; exact ho) h3
    · exact (right_step (by omega) l hl i (by omega)).2 ho
structure RightP (l : List S31) : Prop where
  f : ∀ x ∈ l, fitsB x = true
  d : l.Pairwise (fun x y => lessV y x)
  n : l.length ≤ 1000
theorem right_at {l : List S31} (h : RightP l) : ∀ j, j < l.length → okAt l j := by
  intro j hj
  refine ⟨by rw [gt_get l j hj]; exact h.f _ (List.getElem_mem _), fun h0 => ?_⟩
  rw [gt_get l j hj, gt_get l (j - 1) (by omega)]
  exact List.pairwise_iff_getElem.1 h.d (j - 1) j (by omega) hj (by omega)
theorem chain_pair : ∀ (l : List S31), (∀ j, 0 < j → j < l.length → lessV (gt l j) (gt l (j - 1))) → l.Pairwise (fun x y => lessV y x) := by
  intro l
  induction l with
  | nil => intro _; exact List.Pairwise.nil
  | cons x r ih =>
    intro h
    have hr := ih (fun j h0 hj => by
      have := h (j + 1) (by omega) (by simpa using hj)
      rw [show j + 1 - 1 = j by omega] at this
      have e1 : gt (x :: r) (j + 1) = gt r j := rfl
      have e2 : gt (x :: r) j = gt r (j - 1) := by obtain ⟨j, rfl⟩ : ∃ m, j = m + 1 := ⟨j - 1, by omega⟩; rfl
      rw [e1, e2] at this
      exact this)
    refine List.pairwise_cons.2 ⟨fun y hy => ?_, hr⟩
    cases r with
    | nil => simp at hy
    | cons z r =>
      have hz : lessV z x := h 1 (by omega) (by simp)
      rcases List.mem_cons.1 hy with rfl | hy
      · exact hz
      · exact lessV_trans ((List.pairwise_cons.1 hr).1 y hy) hz
theorem right_of {l : List S31} (h : ∀ j, j < l.length → okAt l j) (hn : l.length ≤ 1000) : RightP l := by
  refine ⟨fun x hx => ?_, chain_pair l (fun j h0 hj => (h j hj).2 h0), hn⟩
  obtain ⟨j, hj, rfl⟩ := List.getElem_of_mem hx
  rw [← gt_get l j hj]
  exact (h j hj).1
theorem right_yes {l : List S31} {k : Nat} (h : RightP l) (hk : l.length + 3 < k) : chain_Right.f k l = some true := by
  have hn := h.n
  unfold chain_Right.f
  rw [show (0 : Int) = ((0 : Nat) : Int) from rfl, right_T l (by omega) l.length 0 k (by omega) hk (fun j _ hj => right_at h j hj), decide_eq_true (by omega)]
theorem right_no {l : List S31} {k : Nat} (hl : l.length ≤ 1000000000) (h : ¬ RightP l) (hk : l.length + 3 < k) : chain_Right.f k l = some false := by
  unfold chain_Right.f
  rw [show (0 : Int) = ((0 : Nat) : Int) from rfl]
  by_cases ha : ∀ j, j < l.length → okAt l j
  · rw [right_T l hl l.length 0 k (by omega) hk (fun j _ hj => ha j hj), decide_eq_false (fun z => h (right_of ha (by omega)))]
  · refine right_F l hl l.length 0 k (by omega) hk ?_
    obtain ⟨j, hj⟩ := Classical.not_forall.1 ha
    obtain ⟨h1, h2⟩ := Classical.not_imp.1 hj
    exact ⟨j, Nat.zero_le _, h1, h2⟩

/-! the place of a stamp in a chain -/
theorem above_iff (t0 t1 : Int) (x : S31) : pl_above t0 t1 x = true ↔ (t0 < x.f0.f0 ∨ t0 = x.f0.f0 ∧ t1 < x.f0.f1) := less_iff _ _ _ _
theorem above_down {l : List S31} (h : RightP l) (t0 t1 : Int) {a b : Nat} (ha : a < l.length) (hb : b < l.length) (hab : a ≤ b) (hf : pl_above t0 t1 l[a] = false) : pl_above t0 t1 l[b] = false := by
  rcases Nat.lt_or_ge a b with h1 | h1
  · have h2 : lessV l[b] l[a] := List.pairwise_iff_getElem.1 h.d a b ha hb h1
    refine Bool.eq_false_iff.2 (fun z => ?_)
    rw [above_iff] at z
    have h3 : pl_above t0 t1 l[a] = true := by rw [above_iff]; unfold lessV at h2; omega
    rw [h3] at hf
    cases hf
  · obtain rfl : a = b := by omega
    exact hf
theorem place_eq {l : List S31} {k : Nat} (h : RightP l) (t0 t1 : Int) : chain_place.f k l t0 t1 = some ((l.countP (pl_above t0 t1) : Nat) : Int) := by
  unfold chain_place.f
  rw [if_pos]
  have := h.n
  refine ⟨by omega, fun a b hab hf => above_down h t0 t1 a.2 b.2 hab hf⟩
theorem desc_sub {l r : List S31} (h : l.Pairwise (fun x y => lessV y x)) (hr : r.Sublist l) : r.Pairwise (fun x y => lessV y x) := h.sublist hr
/-- Ahead of the place all are above, behind it none is. -/
theorem place_split (t0 t1 : Int) : ∀ (l : List S31), l.Pairwise (fun x y => lessV y x) → (∀ x ∈ l.take (l.countP (pl_above t0 t1)), pl_above t0 t1 x = true) ∧ (∀ x ∈ l.drop (l.countP (pl_above t0 t1)), pl_above t0 t1 x = false) := by
  intro l
  induction l with
  | nil => intro _; exact ⟨by simp, by simp⟩
  | cons x r ih =>
    intro h
    have hr := ih (List.pairwise_cons.1 h).2
    have hx := (List.pairwise_cons.1 h).1
    rw [List.countP_cons]
    cases hp : pl_above t0 t1 x with
    | true =>
      simp only [if_true]
      rw [List.take_succ_cons, List.drop_succ_cons]
      refine ⟨fun y hy => ?_, hr.2⟩
      rcases List.mem_cons.1 hy with rfl | hy
      · exact hp
      · exact hr.1 y hy
    | false =>
      have hall : ∀ y ∈ r, pl_above t0 t1 y = false := fun y hy => by
        refine Bool.eq_false_iff.2 (fun z => ?_)
        rw [above_iff] at z
        have h2 := hx y hy
        have h3 : pl_above t0 t1 x = true := by rw [above_iff]; unfold lessV at h2; omega
        rw [h3] at hp
        cases hp
      have hc : r.countP (pl_above t0 t1) = 0 := List.countP_eq_zero.2 (fun y hy => by rw [hall y hy]; simp)
      simp only [hc, Bool.false_eq_true, if_false, Nat.add_zero, List.take_zero, List.drop_zero]
      refine ⟨by simp, fun y hy => ?_⟩
      rcases List.mem_cons.1 hy with rfl | hy
      · exact hp
      · exact hall y hy
theorem ba_inj {a b : ByteArray} (h : a.toList = b.toList) : a = b := by
  rw [ByteArray.toList_eq, ByteArray.toList_eq] at h
  cases a; cases b
  simp only at h
  congr 1
  exact Array.toList_inj.1 h
theorem veq_iff (y v : S31) : pl_veq y v.f0.f0 v.f0.f1 v.f1.f0 v.f1.f1 v.f2 v.f3 = true ↔ y = v := by
  unfold pl_veq
  simp only [Bool.and_eq_true, beq_iff_eq]
  refine ⟨fun ⟨⟨h1, h2⟩, ⟨h3, h4⟩, h5, h6⟩ => ?_, fun h => by subst h; exact ⟨⟨rfl, rfl⟩, ⟨rfl, rfl⟩, rfl, rfl⟩⟩
  obtain ⟨⟨a, b⟩, ⟨c, d⟩, e, f⟩ := y
  obtain ⟨⟨a', b'⟩, ⟨c', d'⟩, e', f'⟩ := v
  simp only at h1 h2 h3 h4 h5 h6
  subst h1 h2 h3 h4 h6
  rw [ba_inj h5]
theorem ateq_iff (y v : S31) : pl_ateq y v.f0.f0 v.f0.f1 = true ↔ atV y v := by
  unfold pl_ateq atV
  simp only [Bool.and_eq_true, beq_iff_eq]
def plc (l : List S31) (v : S31) : Nat := l.countP (pl_above v.f0.f0 v.f0.f1)
def putL (l : List S31) (v : S31) : List S31 := l.take (plc l v) ++ v :: l.drop (plc l v)
theorem putL_mem (l : List S31) (v x : S31) : x ∈ putL l v ↔ x = v ∨ x ∈ l := by
  unfold putL
  rw [List.mem_append, List.mem_cons]
  have : x ∈ l ↔ x ∈ l.take (plc l v) ∨ x ∈ l.drop (plc l v) := by
    have e := List.take_append_drop (plc l v) l
    rw [← List.mem_append, e]
  rw [this]
  constructor
  · rintro (h | h | h)
    · exact .inr (.inl h)
    · exact .inl h
    · exact .inr (.inr h)
  · rintro (h | h | h)
    · exact .inr (.inl h)
    · exact .inl h
    · exact .inr (.inr h)
theorem putL_length (l : List S31) (v : S31) : (putL l v).length = l.length + 1 := by
  unfold putL
  have := List.countP_le_length (p := pl_above v.f0.f0 v.f0.f1) (l := l)
  have h : plc l v ≤ l.length := this
  simp; omega
theorem putL_right {l : List S31} {v : S31} (h : RightP l) (hv : fitsB v = true) (hn : l.length < 1000) (hno : ∀ y ∈ l, ¬ atV y v) : RightP (putL l v) := by
  obtain ⟨h1, h2⟩ := place_split v.f0.f0 v.f0.f1 l h.d
  have hd : ∀ y ∈ l.drop (plc l v), lessV y v := fun y hy => by
    have := h2 y hy
    have h3 := hno y (List.mem_of_mem_drop hy)
    have h4 : ¬ (v.f0.f0 < y.f0.f0 ∨ v.f0.f0 = y.f0.f0 ∧ v.f0.f1 < y.f0.f1) := fun z => by rw [(above_iff _ _ _).2 z] at this; cases this
    unfold atV at h3
    unfold lessV
    omega
  have ht : ∀ y ∈ l.take (plc l v), lessV v y := fun y hy => (above_iff _ _ _).1 (h1 y hy)
  refine ⟨fun x hx => ?_, ?_, by rw [putL_length]; omega⟩
  · rcases (putL_mem l v x).1 hx with rfl | hx
    · exact hv
    · exact h.f x hx
  · unfold putL
    have hs := h.d
    rw [← List.take_append_drop (plc l v) l] at hs
    obtain ⟨s1, s2, s3⟩ := List.pairwise_append.1 hs
    refine List.pairwise_append.2 ⟨s1, List.pairwise_cons.2 ⟨hd, s2⟩, fun x hx y hy => ?_⟩
    rcases List.mem_cons.1 hy with rfl | hy
    · exact ht x hx
    · exact s3 x hx y hy
/-- What Put does to a right chain: a version that fits, of a new stamp. -/
theorem put_new {l : List S31} {v : S31} {k : Nat} (h : RightP l) (hv : fitsB v = true) (hno : ∀ y ∈ l, ¬ atV y v) (hk : l.length + 3 < k) : chain_Put.f k l v.f0.f0 v.f0.f1 v.f1.f0 v.f1.f1 v.f2 v.f3 = if 1000 ≤ l.length then some ([], 3) else some (putL l v, 0) := by
  unfold chain_Put.f
  rw [right_yes h hk, Option.bind_some, if_pos rfl, fits_eq, Option.bind_some, if_pos hv, place_eq h, Option.bind_some, Int.toNat_natCast]
  have hins : pl_ins l (plc l v) ⟨⟨v.f0.f0, v.f0.f1⟩, ⟨v.f1.f0, v.f1.f1⟩, v.f2, v.f3⟩ = if 1000 ≤ l.length then some ([], 3) else some (putL l v, 0) := rfl
  unfold pl_put
  cases hg : l[List.countP (pl_above v.f0.f0 v.f0.f1) l]? with
  | none => exact hins
  | some y =>
    have hy : y ∈ l := List.mem_of_getElem? hg
    dsimp only
    rw [if_neg (fun z => hno y hy (by rw [(veq_iff y v).1 z]; exact ⟨rfl, rfl⟩)), if_neg (fun z => hno y hy ((ateq_iff y v).1 z))]
    exact hins
theorem put_unfit {l : List S31} {v : S31} {k : Nat} (h : RightP l) (hv : fitsB v = false) (hk : l.length + 3 < k) : chain_Put.f k l v.f0.f0 v.f0.f1 v.f1.f0 v.f1.f1 v.f2 v.f3 = some ([], 1) := by
  unfold chain_Put.f
  rw [right_yes h hk, Option.bind_some, if_pos rfl, fits_eq, Option.bind_some, if_neg (by rw [hv]; simp)]
theorem at_place {l : List S31} {v y : S31} (h : RightP l) (hy : y ∈ l) (ha : atV y v) : l[plc l v]? = some y := by
  have h12 : (∀ x ∈ l.take (plc l v), pl_above v.f0.f0 v.f0.f1 x = true) ∧ (∀ x ∈ l.drop (plc l v), pl_above v.f0.f0 v.f0.f1 x = false) := place_split v.f0.f0 v.f0.f1 l h.d
  obtain ⟨h1, h2⟩ := h12
  obtain ⟨j, hj, rfl⟩ := List.getElem_of_mem hy
  have hna : pl_above v.f0.f0 v.f0.f1 l[j] = false := Bool.eq_false_iff.2 (fun z => by rw [above_iff] at z; unfold atV at ha; omega)
  have hle : plc l v ≤ j := by
    rcases Nat.lt_or_ge j (plc l v) with z | z
    · have := h1 l[j] (List.mem_take_iff_getElem.2 ⟨j, by omega, rfl⟩)
      rw [hna] at this; cases this
    · exact z
  rcases Nat.lt_or_ge (plc l v) j with z | z
  · have h3 : lessV l[j] l[plc l v] := List.pairwise_iff_getElem.1 h.d (plc l v) j (by omega) hj z
    have h4 : pl_above v.f0.f0 v.f0.f1 l[plc l v] = true := by rw [above_iff]; unfold lessV at h3; unfold atV at ha; omega
    have h5 := h2 l[plc l v] (List.mem_drop_iff_getElem.2 ⟨0, by omega, rfl⟩)
    rw [h4] at h5; cases h5
  · rw [show plc l v = j by omega]
    exact List.getElem?_eq_getElem hj
theorem put_same {l : List S31} {v : S31} {k : Nat} (h : RightP l) (hv : fitsB v = true) (hin : v ∈ l) (hk : l.length + 3 < k) : chain_Put.f k l v.f0.f0 v.f0.f1 v.f1.f0 v.f1.f1 v.f2 v.f3 = some (l, 0) := by
  unfold chain_Put.f
  rw [right_yes h hk, Option.bind_some, if_pos rfl, fits_eq, Option.bind_some, if_pos hv, place_eq h, Option.bind_some, Int.toNat_natCast]
  have hp := at_place h hin (v := v) ⟨rfl, rfl⟩
  unfold plc at hp
  unfold pl_put
  rw [hp]
  dsimp only
  rw [if_pos ((veq_iff v v).2 rfl)]
theorem put_busy {l : List S31} {v y : S31} {k : Nat} (h : RightP l) (hv : fitsB v = true) (hin : y ∈ l) (ha : atV y v) (hne : y ≠ v) (hk : l.length + 3 < k) : chain_Put.f k l v.f0.f0 v.f0.f1 v.f1.f0 v.f1.f1 v.f2 v.f3 = some ([], 40) := by
  unfold chain_Put.f
  rw [right_yes h hk, Option.bind_some, if_pos rfl, fits_eq, Option.bind_some, if_pos hv, place_eq h, Option.bind_some, Int.toNat_natCast]
  have hp := at_place h hin ha
  unfold plc at hp
  unfold pl_put
  rw [hp]
  dsimp only
  rw [if_neg (fun z => hne ((veq_iff y v).1 z)), if_pos ((ateq_iff y v).2 ha)]

/-! built, and awake -/
theorem right_nil : RightP [] := ⟨by simp, List.Pairwise.nil, by simp⟩
theorem right_ext : ∀ {a b : List S31}, a.Pairwise (fun x y => lessV y x) → b.Pairwise (fun x y => lessV y x) → (∀ x, x ∈ a ↔ x ∈ b) → a = b := by
  intro a
  induction a with
  | nil =>
    intro b _ _ hm
    cases b with
    | nil => rfl
    | cons y s => exact absurd ((hm y).2 (by simp)) (by simp)
  | cons x r ih =>
    intro b ha hb hm
    cases b with
    | nil => exact absurd ((hm x).1 (by simp)) (by simp)
    | cons y s =>
      have hr := List.pairwise_cons.1 ha
      have hs := List.pairwise_cons.1 hb
      have hxy : x = y := by
        rcases List.mem_cons.1 ((hm x).1 (by simp)) with h | h
        · exact h
        · rcases List.mem_cons.1 ((hm y).2 (by simp)) with h' | h'
          · exact h'.symm
          · exact absurd (hr.1 y h') (lessV_asymm (hs.1 x h))
      subst hxy
      rw [ih hr.2 hs.2 (fun z => ?_)]
      constructor
      · intro hz
        rcases List.mem_cons.1 ((hm z).1 (by simp [hz])) with h | h
        · exact absurd (h ▸ hr.1 z hz) (lessV_irrefl _)
        · exact h
      · intro hz
        rcases List.mem_cons.1 ((hm z).2 (by simp [hz])) with h | h
        · exact absurd (h ▸ hs.1 z hz) (lessV_irrefl _)
        · exact h
def Sep (l : List S31) : Prop := ∀ x ∈ l, ∀ y ∈ l, atV x y → x = y
/-- One version more: the chain stays right, and bears what it bore. -/
theorem put_any {c : List S31} {v : S31} {k : Nat} (h : RightP c) (hn : c.length < 1000) (hk : c.length + 3 < k) :
    ∃ r e, chain_Put.f k c v.f0.f0 v.f0.f1 v.f1.f0 v.f1.f1 v.f2 v.f3 = some (r, e) ∧ (e = 0 → RightP r ∧ r.length ≤ c.length + 1 ∧ fitsB v = true ∧ ∀ x, x ∈ r ↔ x = v ∨ x ∈ c) ∧ (e ≠ 0 → fitsB v = false ∨ ∃ y ∈ c, atV y v ∧ y ≠ v) := by
  by_cases hv : fitsB v = true
  · by_cases ha : ∃ y ∈ c, atV y v
    · obtain ⟨y, hy, ha⟩ := ha
      by_cases e : y = v
      · subst e
        exact ⟨c, 0, put_same h hv hy hk, fun _ => ⟨h, by omega, hv, fun x => ⟨.inr, fun z => z.elim (fun z => z ▸ hy) id⟩⟩, fun z => absurd rfl z⟩
      · exact ⟨[], 40, put_busy h hv hy ha e hk, fun z => absurd z (by decide), fun _ => .inr ⟨y, hy, ha, e⟩⟩
    · have hno : ∀ y ∈ c, ¬ atV y v := fun y hy z => ha ⟨y, hy, z⟩
      refine ⟨putL c v, 0, by rw [put_new h hv hno hk, if_neg (by omega)], fun _ => ⟨putL_right h hv hn hno, by rw [putL_length]; exact Nat.le_refl _, hv, putL_mem c v⟩, fun z => absurd rfl z⟩
  · have hv' : fitsB v = false := Bool.eq_false_iff.2 hv
    exact ⟨[], 1, put_unfit h hv' hk, fun z => absurd z (by decide), fun _ => .inl hv'⟩
theorem at_eq {l : List S31} {k : Nat} (h : RightP l) (t0 t1 : Int) (hk : l.length + 3 < k) : chain_At.f k l t0 t1 = match l[l.countP (pl_above t0 t1)]? with
    | some y => some (y.f0.f0, y.f0.f1, y.f1.f0, y.f1.f1, y.f2, y.f3, true)
    | none => some (0, 0, 0, 0, (⟨#[]⟩ : ByteArray), false, false) := by
  unfold chain_At.f
  rw [right_yes h hk, Option.bind_some, if_pos rfl, place_eq h, Option.bind_some]
  have hle := List.countP_le_length (p := pl_above t0 t1) (l := l)
  by_cases he : l.countP (pl_above t0 t1) = l.length
  · rw [if_pos (by omega), List.getElem?_eq_none (by omega)]
  · have hlt : l.countP (pl_above t0 t1) < l.length := by omega
    rw [if_neg (by omega), if_pos (by omega), if_pos (by omega), rd_gt, gt_get l _ hlt, List.getElem?_eq_getElem hlt]
/-! pruning -/
def pruneL (l : List S31) (t0 t1 : Int) : List S31 := match l[l.countP (pl_above t0 t1)]? with
  | some y => if y.f3 = true then l.take (l.countP (pl_above t0 t1)) else l.take (l.countP (pl_above t0 t1) + 1)
  | none => l.take (l.countP (pl_above t0 t1))
theorem clone_eq (l : List S31) (k : Nat) (h : l.length ≤ 1000000000) : api_Version_46.f k l = some l := by unfold api_Version_46.f; rw [if_pos h]
theorem prune_eq {l : List S31} {k : Nat} (h : RightP l) (t0 t1 : Int) (hk : l.length + 3 < k) : chain_Prune.f k l t0 t1 = some (pruneL l t0 t1) := by
  have hn := h.n
  have hle := List.countP_le_length (p := pl_above t0 t1) (l := l)
  unfold chain_Prune.f pruneL
  rw [right_yes h hk, Option.bind_some, if_pos rfl, place_eq h, Option.bind_some]
  by_cases hlt : l.countP (pl_above t0 t1) < l.length
  · rw [List.getElem?_eq_getElem hlt]
    dsimp only
    rw [if_pos (by omega), if_pos (by omega), rd_gt, gt_get l _ hlt]
    by_cases hd : (l[l.countP (pl_above t0 t1)]).f3 = true
    · rw [if_pos hd, if_pos (by omega), Int.toNat_natCast, clone_eq _ _ (by rw [List.length_take]; omega), Option.bind_some, if_pos hd]
    · rw [if_neg hd, w64 (by omega), if_pos (by omega), if_pos (by omega), Int.toNat_natCast, clone_eq _ _ (by rw [List.length_take]; omega), Option.bind_some, if_neg hd]
  · rw [List.getElem?_eq_none (by omega), if_neg (by omega), if_pos (by omega), if_pos (by omega), Int.toNat_natCast, clone_eq _ _ (by rw [List.length_take]; omega), Option.bind_some]
theorem prune_take (l : List S31) (t0 t1 : Int) : ∃ m, pruneL l t0 t1 = l.take m ∧ l.countP (pl_above t0 t1) ≤ m ∧ m ≤ l.length ∧ (m = l.countP (pl_above t0 t1) → ∀ y, l[m]? = some y → y.f3 = true) := by
  have hle := List.countP_le_length (p := pl_above t0 t1) (l := l)
  unfold pruneL
  cases hg : l[l.countP (pl_above t0 t1)]? with
  | none => exact ⟨_, rfl, Nat.le_refl _, hle, fun _ y hy => by rw [hg] at hy; cases hy⟩
  | some y =>
    have hlt := (List.getElem?_eq_some_iff.1 hg).1
    dsimp only
    by_cases hd : y.f3 = true
    · rw [if_pos hd]
      exact ⟨_, rfl, Nat.le_refl _, hle, fun _ z hz => by rw [hg] at hz; cases hz; exact hd⟩
    · rw [if_neg hd]
      exact ⟨_, rfl, by omega, by omega, fun z => by omega⟩
theorem right_take {l : List S31} (h : RightP l) (m : Nat) : RightP (l.take m) := ⟨fun x hx => h.f x (List.mem_of_mem_take hx), h.d.sublist (List.take_sublist _ _), by have := h.n; rw [List.length_take]; omega⟩
theorem count_take {l : List S31} (h : RightP l) (t0 t1 : Int) (m : Nat) (hm : l.countP (pl_above t0 t1) ≤ m) : (l.take m).countP (pl_above t0 t1) = l.countP (pl_above t0 t1) := by
  have e : l.countP (pl_above t0 t1) = (l.take m).countP (pl_above t0 t1) + (l.drop m).countP (pl_above t0 t1) := by
    conv => lhs; rw [← List.take_append_drop m l]
    rw [List.countP_append]
  have hz : (l.drop m).countP (pl_above t0 t1) = 0 := List.countP_eq_zero.2 (fun x hx => by
    have hx2 : x ∈ l.drop (l.countP (pl_above t0 t1)) := by
      have : l.drop m = (l.drop (l.countP (pl_above t0 t1))).drop (m - l.countP (pl_above t0 t1)) := by rw [List.drop_drop]; congr 1; omega
      rw [this] at hx
      exact List.mem_of_mem_drop hx
    rw [(place_split t0 t1 l h.d).2 x hx2]; simp)
  omega
theorem prune_twice {l : List S31} (h : RightP l) (a0 a1 b0 b1 : Int) (hab : ¬ (b0 < a0 ∨ b0 = a0 ∧ b1 < a1)) : pruneL (pruneL l a0 a1) b0 b1 = pruneL l b0 b1 := by
  obtain ⟨m, e, h1, h2, h3⟩ := prune_take l a0 a1
  have hmono : l.countP (pl_above b0 b1) ≤ l.countP (pl_above a0 a1) := List.countP_mono_left (fun x _ hx => by rw [above_iff] at hx ⊢; omega)
  rw [e]
  unfold pruneL
  rw [count_take h b0 b1 m (by omega)]
  rw [List.getElem?_take]
  by_cases hlt : l.countP (pl_above b0 b1) < m
  · rw [if_pos hlt]
    cases hg : l[l.countP (pl_above b0 b1)]? with
    | none => dsimp only; rw [List.take_take, Nat.min_eq_left (by omega)]
    | some y =>
      dsimp only
      rw [List.take_take, List.take_take, Nat.min_eq_left (by omega), Nat.min_eq_left (by omega)]
  · rw [if_neg hlt]
    dsimp only
    have hm : m = l.countP (pl_above a0 a1) := by omega
    have hm2 : l.countP (pl_above b0 b1) = m := by omega
    rw [List.take_take, hm2, Nat.min_self]
    cases hg : l[m]? with
    | none => rfl
    | some y => dsimp only; rw [if_pos (h3 hm y hg)]

/-! what a snapshot sees -/
def vw (o : Option S31) : Int × Int × Int × Int × ByteArray × Bool × Bool := match o with
  | some y => (y.f0.f0, y.f0.f1, y.f1.f0, y.f1.f1, y.f2, y.f3, true)
  | none => (0, 0, 0, 0, (⟨#[]⟩ : ByteArray), false, false)
def see (l : List S31) (t0 t1 : Int) : Option S31 := l[l.countP (pl_above t0 t1)]?
theorem at_vw {l : List S31} {k : Nat} (h : RightP l) (t0 t1 : Int) (hk : l.length + 3 < k) : chain_At.f k l t0 t1 = some (vw (see l t0 t1)) := by
  rw [at_eq h t0 t1 hk]
  unfold see vw
  cases l[List.countP (pl_above t0 t1) l]? <;> rfl
theorem see_none {l : List S31} {t0 t1 : Int} (h : see l t0 t1 = none) : ∀ z ∈ l, pl_above t0 t1 z = true := by
  unfold see at h
  have hle := List.countP_le_length (p := pl_above t0 t1) (l := l)
  have hge := List.getElem?_eq_none_iff.1 h
  exact List.countP_eq_length.1 (by omega)
theorem see_some {l : List S31} (h : RightP l) {t0 t1 : Int} {y : S31} (hs : see l t0 t1 = some y) : y ∈ l ∧ pl_above t0 t1 y = false ∧ ∀ z ∈ l, pl_above t0 t1 z = false → z = y ∨ lessV z y := by
  unfold see at hs
  obtain ⟨hlt, rfl⟩ := List.getElem?_eq_some_iff.1 hs
  obtain ⟨h1, h2⟩ := place_split t0 t1 l h.d
  refine ⟨List.getElem_mem _, h2 _ (List.mem_drop_iff_getElem.2 ⟨0, by omega, rfl⟩), fun z hz hna => ?_⟩
  obtain ⟨j, hj, rfl⟩ := List.getElem_of_mem hz
  rcases Nat.lt_trichotomy j (l.countP (pl_above t0 t1)) with hlt' | heq | hgt
  · have := h1 l[j] (List.mem_take_iff_getElem.2 ⟨j, by omega, rfl⟩)
    rw [hna] at this
    cases this
  · left
    subst heq
    rfl
  · exact .inr (List.pairwise_iff_getElem.1 h.d _ j hlt hj hgt)
theorem see_put {c d : List S31} {v : S31} (hc : RightP c) (hd : RightP d) (hm : ∀ x, x ∈ d ↔ x = v ∨ x ∈ c) (t0 t1 : Int) : see d t0 t1 = see c t0 t1 ∨ see d t0 t1 = some v := by
  cases e : see d t0 t1 with
  | none =>
    left
    cases e' : see c t0 t1 with
    | none => rfl
    | some y =>
      obtain ⟨h1, h2, _⟩ := see_some hc e'
      have := see_none e y ((hm y).2 (.inr h1))
      rw [h2] at this
      cases this
  | some y =>
    obtain ⟨h1, h2, h3⟩ := see_some hd e
    rcases (hm y).1 h1 with rfl | hy
    · exact .inr rfl
    · left
      cases e' : see c t0 t1 with
      | none =>
        have := see_none e' y hy
        rw [h2] at this
        cases this
      | some y' =>
        obtain ⟨h1', h2', h3'⟩ := see_some hc e'
        rcases h3 y' ((hm y').2 (.inr h1')) h2' with z | z
        · rw [z]
        · rcases h3' y hy h2 with z' | z'
          · rw [z']
          · exact absurd z' (lessV_asymm z)
theorem see_prune {c : List S31} (h : RightP c) {s0 s1 t0 t1 : Int} (ht : ¬ (t0 < s0 ∨ t0 = s0 ∧ t1 < s1)) : see (pruneL c s0 s1) t0 t1 = see c t0 t1 ∨ (see (pruneL c s0 s1) t0 t1 = none ∧ ∀ y, see c t0 t1 = some y → y.f3 = true) := by
  obtain ⟨m, e, h1, h2, h3⟩ := prune_take c s0 s1
  have hts : c.countP (pl_above t0 t1) ≤ c.countP (pl_above s0 s1) := by
    refine List.countP_mono_left (fun x _ hx => ?_)
    rw [above_iff] at hx ⊢
    omega
  have hn := count_take h t0 t1 m (by omega)
  unfold see
  rw [e, hn]
  by_cases hlt : c.countP (pl_above t0 t1) < m
  · left
    rw [List.getElem?_take_of_lt hlt]
  · right
    refine ⟨List.getElem?_eq_none (by rw [List.length_take]; omega), fun y hy => ?_⟩
    have em : m = c.countP (pl_above s0 s1) := by omega
    have et : c.countP (pl_above t0 t1) = m := by omega
    rw [et] at hy
    exact h3 em y hy
/-! the chain's functions as pure ones -/
def putC (l : List S31) (v : S31) : List S31 × Int := (chain_Put.f 2000 l v.f0.f0 v.f0.f1 v.f1.f0 v.f1.f1 v.f2 v.f3).getD ([], 1)
/-- What a put does to a chain. -/
inductive PutC (l : List S31) (v : S31) : List S31 × Int → Prop where
  | unfit : fitsB v = false → PutC l v ([], 1)
  | same : fitsB v = true → v ∈ l → PutC l v (l, 0)
  | busy (y : S31) : fitsB v = true → y ∈ l → atV y v → y ≠ v → PutC l v ([], 40)
  | more : fitsB v = true → (∀ y ∈ l, ¬ atV y v) → 1000 ≤ l.length → PutC l v ([], 3)
  | new : fitsB v = true → (∀ y ∈ l, ¬ atV y v) → l.length < 1000 → PutC l v (putL l v, 0)
theorem put_spec {l : List S31} {v : S31} (h : RightP l) : chain_Put.f 2000 l v.f0.f0 v.f0.f1 v.f1.f0 v.f1.f1 v.f2 v.f3 = some (putC l v) ∧ PutC l v (putC l v) := by
  have hn := h.n
  have key : ∃ q, chain_Put.f 2000 l v.f0.f0 v.f0.f1 v.f1.f0 v.f1.f1 v.f2 v.f3 = some q ∧ PutC l v q := by
    by_cases hv : fitsB v = true
    · by_cases ha : ∃ y ∈ l, atV y v
      · obtain ⟨y, hy, ha⟩ := ha
        by_cases e : y = v
        · subst e
          exact ⟨_, put_same h hv hy (by omega), .same hv hy⟩
        · exact ⟨_, put_busy h hv hy ha e (by omega), .busy y hv hy ha e⟩
      · have hno : ∀ y ∈ l, ¬ atV y v := fun y hy z => ha ⟨y, hy, z⟩
        have hp := put_new h hv hno (k := 2000) (by omega)
        by_cases hm : 1000 ≤ l.length
        · rw [if_pos hm] at hp
          exact ⟨_, hp, .more hv hno hm⟩
        · rw [if_neg hm] at hp
          exact ⟨_, hp, .new hv hno (by omega)⟩
    · have hv' : fitsB v = false := Bool.eq_false_iff.2 hv
      exact ⟨_, put_unfit h hv' (by omega), .unfit hv'⟩
  obtain ⟨q, e, hq⟩ := key
  have : putC l v = q := by unfold putC; rw [e]; rfl
  rw [this]
  exact ⟨e, hq⟩
theorem put_is {l : List S31} {v : S31} (h : RightP l) : PutC l v (putC l v) := (put_spec h).2
theorem put_right {l : List S31} {v : S31} (h : RightP l) : RightP (putC l v).1 := by
  have hs := put_is (v := v) h
  generalize putC l v = q at hs
  cases hs with
  | unfit _ => exact right_nil
  | same _ _ => exact h
  | busy _ _ _ _ _ => exact right_nil
  | more _ _ _ => exact right_nil
  | new hv hno hn => exact putL_right h hv hn hno
def nwC (l : List S31) : Int × Int := match l with
  | [] => (0, 0)
  | x :: _ => (x.f0.f0, x.f0.f1)
theorem newest_eq {l : List S31} {k : Nat} (h : RightP l) (hk : l.length + 3 < k) : chain_Newest.f k l = some (nwC l) := by
  unfold chain_Newest.f nwC
  cases l with
  | nil => simp
  | cons x r =>
    have e : rd_T31 (x :: r) 0 = x := rfl
    rw [if_neg (by rw [List.length_cons]; omega), right_yes h hk, Option.bind_some, if_pos rfl, if_pos (by rw [List.length_cons]; omega), e]
theorem prune_right {l : List S31} (h : RightP l) (t0 t1 : Int) : RightP (pruneL l t0 t1) := by
  obtain ⟨m, e, _, _, _⟩ := prune_take l t0 t1
  rw [e]
  exact right_take h m
theorem plain31 : ∀ (w w' : World) (b b' : Nat) (ok ok' : Nat → Prop) (x : S31) (cs : List Value), k31.M w b ok x cs → k31.M w' b' ok' x cs := by
  intro w w' b b' ok ok' x cs h
  rw [k31_openM h]
  exact k31_mkM w' b' ok' x
theorem plain60 : ∀ (w w' : World) (b b' : Nat) (ok ok' : Nat → Prop) (x : S60) (cs : List Value), k60.M w b ok x cs → k60.M w' b' ok' x cs := by
  intro w w' b b' ok ok' x cs h
  rw [k60_openM h]
  exact k60_mkM w' b' ok' x

end Go.Proofs.Ytomcjcoehahikaa.Sto
