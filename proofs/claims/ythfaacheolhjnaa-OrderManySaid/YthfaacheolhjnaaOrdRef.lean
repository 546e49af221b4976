/- The document's map walked whole; a seat's own text. -/
import Derived.Test.YthfaacheolhjnaaOrdMaps
import Derived.Test.YthfaacheolhjnaaPOrderRunsx1
import Derived.Deep.LoopGhost
import Derived.Deep.Cut
import Derived.Lib.Hide
import Derived.StillTailTactics
import Derived.Deep.QuietTactic
import Derived.BigQuiet
import Derived.Outline
import Derived.Deep.RegionWith
import Derived.WalkLawsBesides
namespace Go.Proofs.Ythfaacheolhjnaa.Ord
open Go.RowKit Go.Proofs.YthfaacheolhjnaaW.PrintWords
set_option linter.unusedVariables false
set_option linter.unusedSimpArgs false
/-! rows of texts: the call's own, read; 'Same' -/
theorem Mod.bel {W W' : World} (h : Ord.Mod W W' []) : Below W.heap.size W W' := h.below (fun k hk => by simp at hk) (Nat.le_refl _)
theorem own_lt' {W : World} {v : Value} {n : Nat} {xs : List Value} (h : W.ownsRow 0 9 1 v n xs) : ∀ y ∈ ownList v, y < W.heap.size := by
  intro y hy
  rcases h with ⟨h1, ⟨rfl, _⟩ | ⟨g, cap, cur, rfl, h3, h4, h5⟩⟩
  · simp [ownList] at hy
  · simp only [ownList, List.mem_singleton] at hy
    subst hy
    exact blk_lt h4
theorem own_R {W : World} {v : Value} {xs : List ByteArray} (h : W.ownsRow 0 9 1 v xs.length (pw_strs xs)) : Kd.string.R 9 W 0 (fun _ => True) v xs := Kd.R_of_own h (fun _ _ => trivial)
theorem R_own {W : World} {v : Value} {xs : List ByteArray} {ok : Nat → Prop} (h : Kd.string.R 9 W 0 ok v xs) : W.ownsRow 0 9 1 v xs.length (pw_strs xs) := Kd.own_of_R h
theorem own_C {W : World} {v : Value} {xs : List ByteArray} (h : W.ownsRow 0 9 1 v xs.length (pw_strs xs)) : ∃ A c, v = .slice A xs.length c ∧ xs.length ≤ c ∧ Kd.string.C W A xs.length xs := Kd.R_reads (own_R h)
theorem own_mod {W W' : World} {v : Value} {n : Nat} {xs : List Value} {fp : List Nat} (h : W.ownsRow 0 9 1 v n xs) (m : Mod W W' fp) (hd : ∀ y ∈ ownList v, y ∉ fp) : W'.ownsRow 0 9 1 v n xs := by
  rcases h with ⟨h1, h2 | ⟨g, cap, cur, rfl, h3, h4, h5⟩⟩
  · exact ⟨h1, .inl h2⟩
  · exact ⟨h1, .inr ⟨g, cap, cur, rfl, h3, (m.at_ h4 (hd g (by simp [ownList]))), h5⟩⟩
theorem Mod.of_drawn {W W' : World} (h : Drawn0 W W') : Mod W W' [] := by
  obtain ⟨⟨n, rfl⟩⟩ := h
  exact (Mod.refl _ _).drewN n
theorem same_l (l : List ByteArray) (hl : l.length ≤ 1000000000000) : ∀ (d i k : Nat), i + d = l.length → d < k → POrderRuns.dovecoteref03_Same.l0 k l l i = some true := by
  intro d
  induction d with
  | zero =>
    intro i k h hk
    obtain ⟨k, rfl⟩ : ∃ m, k = m + 1 := ⟨k - 1, by omega⟩
    simp only [POrderRuns.dovecoteref03_Same.l0]
    rw [if_neg (by omega)]
  | succ d ih =>
    intro i k h hk
    obtain ⟨k, rfl⟩ : ∃ m, k = m + 1 := ⟨k - 1, by omega⟩
    simp only [POrderRuns.dovecoteref03_Same.l0]
    have hw : wrap64 ((i : Int) + 1) = ((i + 1 : Nat) : Int) := by unfold wrap64; omega
    rw [if_pos (by omega), if_pos (by omega), if_pos (by omega), if_pos trivial, hw]
    exact ih (i + 1) k (by omega) (by omega)
theorem same_calls {W : World} {A B : Option Addr} {c1 c2 : Nat} {l : List ByteArray} (hl : l.length ≤ 1000000000000) (h1 : Kd.string.C W A l.length l) (g1 : l.length ≤ c1) (h2 : Kd.string.C W B l.length l) (g2 : l.length ≤ c2) :
    Calls Try.prog 16 #[.slice A l.length c1, .slice B l.length c2] W fun e W' => e = .returned (.bool true) ∧ Mod W W' [] := by
  refine (POrderRuns.dovecoteref03_Same.calls (l.length + 1) A c1 l B c2 l true W h1 g1 h2 g2 ?_).mono (fun e W' h => ⟨h.1, Mod.of_drawn h.2⟩)
  unfold POrderRuns.dovecoteref03_Same.f
  rw [if_pos rfl]
  exact same_l l hl l.length 0 _ (by omega) (by omega)
/-! the document's map: a row of pairs -/
def itm (l : List (ByteArray × Int)) : List Value := l.flatMap fun p => [Value.string p.1, Value.int .i64 p.2]
def kI : Kd (ByteArray × Int) := Kd.pair Kd.string (Kd.int .i64)
theorem itm_cons (p : ByteArray × Int) (l : List (ByteArray × Int)) : itm (p :: l) = Value.string p.1 :: Value.int .i64 p.2 :: itm l := rfl
theorem itm_length (l : List (ByteArray × Int)) : (itm l).length = l.length * 2 := by
  induction l with
  | nil => rfl
  | cons p r ih => rw [itm_cons]; simp only [List.length_cons, ih]; omega
theorem itm_0 (l : List (ByteArray × Int)) : ∀ (i : Nat) (h : i < l.length), (itm l)[i * 2]? = some (.string l[i].1) := by
  induction l with
  | nil => intro i h; simp at h
  | cons p r ih =>
    intro i h
    cases i with
    | zero => rfl
    | succ i => rw [itm_cons, show (i + 1) * 2 = i * 2 + 1 + 1 by omega]; simp only [List.getElem?_cons_succ, List.getElem_cons_succ]; exact ih i (by simpa using h)
theorem itm_1 (l : List (ByteArray × Int)) : ∀ (i : Nat) (h : i < l.length), (itm l)[i * 2 + 1]? = some (.int .i64 l[i].2) := by
  induction l with
  | nil => intro i h; simp at h
  | cons p r ih =>
    intro i h
    cases i with
    | zero => rfl
    | succ i => rw [itm_cons, show (i + 1) * 2 + 1 = i * 2 + 1 + 1 + 1 by omega]; simp only [List.getElem?_cons_succ, List.getElem_cons_succ]; exact ih i (by simpa using h)
theorem itm_set (l : List (ByteArray × Int)) : ∀ (i : Nat) (h : i < l.length) (x : Int), (itm l).set (i * 2 + 1) (.int .i64 x) = itm (l.set i (l[i].1, x)) := by
  induction l with
  | nil => intro i h; simp at h
  | cons p r ih =>
    intro i h x
    cases i with
    | zero => rfl
    | succ i => rw [itm_cons, show (i + 1) * 2 + 1 = i * 2 + 1 + 1 + 1 by omega]; simp only [List.set_cons_succ, List.getElem_cons_succ]; rw [ih i (by simpa using h), itm_cons]
theorem itm_drop (l : List (ByteArray × Int)) : ∀ (i : Nat), (itm l).drop (i * 2) = itm (l.drop i) := by
  induction l with
  | nil => intro i; simp [itm]
  | cons p r ih =>
    intro i
    cases i with
    | zero => rfl
    | succ i => rw [itm_cons, show (i + 1) * 2 = i * 2 + 1 + 1 by omega]; simp only [List.drop_succ_cons]; exact ih i
theorem reps_itm (w : World) (base : Nat) (ok : Nat → Prop) (l : List (ByteArray × Int)) : Reps (kI.M w base ok) 2 l (itm l) := by
  refine ⟨by rw [itm_length], fun j p hj => ?_⟩
  obtain ⟨h1, h2⟩ := List.getElem?_eq_some_iff.1 hj
  rw [itm_drop]
  rw [List.drop_eq_getElem_cons h1, h2, itm_cons]
  exact ⟨[.string p.1], [.int .i64 p.2], rfl, rfl, rfl⟩
theorem itm_of_reps {w : World} {base : Nat} {ok : Nat → Prop} (l : List (ByteArray × Int)) : ∀ {cs : List Value}, Reps (kI.M w base ok) 2 l cs → cs = itm l := by
  induction l with
  | nil => intro cs h; exact List.eq_nil_of_length_eq_zero (by simpa using h.1)
  | cons p r ih =>
    intro cs h
    have h0 := h.2 0 p rfl
    obtain ⟨c1, c2, e1, e2, e3⟩ := h0
    have e2' : c1 = [.string p.1] := e2
    have e3' : c2 = [.int .i64 p.2] := e3
    subst e2'
    subst e3'
    simp only [Nat.zero_mul, List.drop_zero] at e1
    have hr : cs.drop 2 = itm r := by
      refine ih ⟨by have := h.1; simp only [List.length_cons] at this; rw [List.length_drop]; omega, fun j q hj => ?_⟩
      have := h.2 (j + 1) q (by simpa using hj)
      rw [List.drop_drop, show 2 + j * 2 = (j + 1) * 2 by omega]
      exact this
    have hs := List.take_append_drop 2 cs
    rw [← hs, e1, hr]
    rfl
/-- A row of pairs of the call's own. -/
def Items (W : World) (v : Value) (l : List (ByteArray × Int)) : Prop := W.ownsRow 0 53 2 v l.length (itm l)
theorem Items.R {W : World} {v : Value} {l : List (ByteArray × Int)} (h : Items W v l) : kI.R 53 W 0 (fun _ => True) v l := ⟨fun _ _ => trivial, itm l, h, reps_itm _ _ _ l⟩
theorem R.items {W : World} {v : Value} {l : List (ByteArray × Int)} {ok : Nat → Prop} (h : kI.R 53 W 0 ok v l) : Items W v l := by
  obtain ⟨h0, inner, ho, hr⟩ := h
  have e := itm_of_reps l hr
  subst e
  exact ho
theorem Items.nil (W : World) : Items W (.slice none 0 0) [] := World.ownsRow_nil _ _ _ _
theorem Items.lt {W : World} {v : Value} {l : List (ByteArray × Int)} (h : Items W v l) : ∀ y ∈ ownList v, y < W.heap.size := by
  intro y hy
  rcases h with ⟨h1, ⟨rfl, _⟩ | ⟨g, cap, cur, rfl, h3, h4, h5⟩⟩
  · simp [ownList] at hy
  · simp only [ownList, List.mem_singleton] at hy
    subst hy
    exact blk_lt h4
theorem Items.mod {W W' : World} {v : Value} {l : List (ByteArray × Int)} {fp : List Nat} (h : Items W v l) (m : Mod W W' fp) (hd : ∀ y ∈ ownList v, y ∉ fp) : Items W' v l := by
  rcases h with ⟨h1, h2 | ⟨g, cap, cur, rfl, h3, h4, h5⟩⟩
  · exact ⟨h1, .inl h2⟩
  · exact ⟨h1, .inr ⟨g, cap, cur, rfl, h3, (m.at_ h4 (hd g (by simp [ownList]))), h5⟩⟩
theorem Items.C {W : World} {v : Value} {l : List (ByteArray × Int)} (h : Items W v l) : ∃ A c, v = .slice A l.length c ∧ l.length ≤ c ∧ Kd.C kI W A l.length l := Kd.R_reads h.R
theorem Items.cells {W : World} {v : Value} {l : List (ByteArray × Int)} (h : Items W v l) (hn : 0 < l.length) : ∃ g c, v = .slice (some ⟨g, 0, none⟩) l.length c ∧ l.length ≤ c ∧ ∀ i (hi : i < l.length), W.cell? ⟨g, i * 2, none⟩ = some (.string l[i].1) ∧ W.cell? ⟨g, i * 2 + 1, none⟩ = some (.int .i64 l[i].2) ∧ W.frozen? ⟨g, i * 2 + 1, none⟩ = false := by
  obtain ⟨g, c, hv, -, -⟩ := World.ownsRow.form h hn
  obtain ⟨A, c', hv', hc, _⟩ := h.C
  have hcc : l.length ≤ c := by rw [hv] at hv'; injection hv' with _ _ e; omega
  have ea : ∀ i, (⟨g, 0, none⟩ : Addr).add i = ⟨g, i, none⟩ := fun i => by cases i <;> simp [Addr.add]
  refine ⟨g, c, hv, hcc, fun i hi => ⟨?_, ?_, ?_⟩⟩
  · have e := World.ownsRow.cells (g := g) h (by rw [hv]; rfl) (i * 2) _ (itm_0 l i hi)
    rw [ea] at e; exact e
  · have e := World.ownsRow.cells (g := g) h (by rw [hv]; rfl) (i * 2 + 1) _ (itm_1 l i hi)
    rw [ea] at e; exact e
  · rcases h with ⟨h1, ⟨rfl, _⟩ | ⟨g', cap, cur, rfl, h3, h4, h5⟩⟩
    · cases hv
    · injection hv with e1 e2 e3
      injection e1 with e1
      injection e1 with e1
      subst e1
      exact blk_frozen h4 _
theorem Items.put {W : World} {g c : Nat} {l : List (ByteArray × Int)} (h : Items W (.slice (some ⟨g, 0, none⟩) l.length c) l) (i : Nat) (hi : i < l.length) (x : Int) : Items (W.setCell ⟨g, i * 2 + 1, none⟩ (.int .i64 x)) (.slice (some ⟨g, 0, none⟩) l.length c) (l.set i (l[i].1, x)) := by
  rcases h with ⟨h1, ⟨h2, _⟩ | ⟨g', cap, cur, e, h3, h4, h5, h6, h7, h8⟩⟩
  · cases h2
  · injection e with e1 e2 e3
    injection e1 with e1
    injection e1 with e1
    subst e1
    subst e3
    refine ⟨by rw [itm_length], .inr ⟨g, c, cur.setIfInBounds (i * 2 + 1) (.int .i64 x), by rw [List.length_set], h3, ?_, by rw [List.length_set]; exact h5, h6, by simpa using h7, ?_⟩⟩
    · exact blk_put h4 _ _ (by rfl)
    · rw [List.length_set, Array.toList_setIfInBounds, List.take_set, h8, itm_set l i hi]
def pl (l : List (ByteArray × Int)) (key : ByteArray) : Nat := match l with
  | [] => 0
  | p :: r => if Tree.lt p.1 key = true then pl r key + 1 else 0
theorem pl_le (l : List (ByteArray × Int)) (key : ByteArray) : pl l key ≤ l.length := by
  induction l with
  | nil => exact Nat.le_refl _
  | cons p r ih => simp only [pl]; split <;> simp <;> omega
theorem pl_lt (l : List (ByteArray × Int)) (key : ByteArray) : ∀ (i : Nat) (h : i < l.length), i < pl l key → Tree.lt (l[i].1) key = true := by
  induction l with
  | nil => intro i h; simp at h
  | cons p r ih =>
    intro i h hi
    simp only [pl] at hi
    split at hi
    · cases i with
      | zero => assumption
      | succ i => exact ih i (by simpa using h) (by omega)
    · omega
theorem pl_at (l : List (ByteArray × Int)) (key : ByteArray) (h : pl l key < l.length) : Tree.lt (l[pl l key].1) key = false := by
  induction l with
  | nil => simp at h
  | cons p r ih =>
    by_cases c : Tree.lt p.1 key = true
    · have e : pl (p :: r) key = pl r key + 1 := by simp only [pl]; rw [if_pos c]
      have h' : pl r key < r.length := by rw [e] at h; simpa using h
      have := ih h'
      simp only [e, List.getElem_cons_succ]
      exact this
    · have e : pl (p :: r) key = 0 := by simp only [pl]; rw [if_neg c]
      simp only [e, List.getElem_cons_zero]
      simpa using c
theorem lget_pl (l : List (ByteArray × Int)) (key : ByteArray) : lget l key = if h : pl l key < l.length then (if key.toList = l[pl l key].1.toList then some l[pl l key].2 else none) else none := by
  induction l with
  | nil => rfl
  | cons p r ih =>
    obtain ⟨k, v⟩ := p
    by_cases c : Tree.lt k key = true
    · have e : pl ((k, v) :: r) key = pl r key + 1 := by simp only [pl]; rw [if_pos c]
      simp only [lget, e, List.getElem_cons_succ, List.length_cons]
      rw [if_pos c, ih]
      by_cases h : pl r key < r.length
      · rw [dif_pos h, dif_pos (by omega)]
      · rw [dif_neg h, dif_neg (by omega)]
    · have e : pl ((k, v) :: r) key = 0 := by simp only [pl]; rw [if_neg c]
      simp only [lget, e, List.getElem_cons_zero, List.length_cons]
      rw [if_neg c, dif_pos (by omega)]
theorem lset_new (l : List (ByteArray × Int)) (key : ByteArray) (x : Int) (h : lget l key = none) : lset l key x = l.take (pl l key) ++ [(key, x)] ++ l.drop (pl l key) := by
  induction l with
  | nil => rfl
  | cons p r ih =>
    obtain ⟨k, v⟩ := p
    by_cases c : Tree.lt k key = true
    · have e : pl ((k, v) :: r) key = pl r key + 1 := by simp only [pl]; rw [if_pos c]
      have h' : lget r key = none := by simpa only [lget, if_pos c] using h
      simp only [lset, e, List.take_succ_cons, List.drop_succ_cons]
      rw [if_pos c, ih h']; rfl
    · have e : pl ((k, v) :: r) key = 0 := by simp only [pl]; rw [if_neg c]
      have h2 : ¬ key.toList = k.toList := fun z => by simp only [lget, if_neg c, if_pos z] at h; cases h
      simp only [lset, e]
      rw [if_neg c, if_neg h2]; rfl
theorem lset_old (l : List (ByteArray × Int)) (key : ByteArray) (x : Int) (h : (lget l key).isSome = true) : ∃ hl : pl l key < l.length, lset l key x = l.set (pl l key) (l[pl l key].1, x) := by
  induction l with
  | nil => simp [lget] at h
  | cons p r ih =>
    obtain ⟨k, v⟩ := p
    by_cases c : Tree.lt k key = true
    · have e : pl ((k, v) :: r) key = pl r key + 1 := by simp only [pl]; rw [if_pos c]
      have h' : (lget r key).isSome = true := by simpa only [lget, if_pos c] using h
      obtain ⟨h1, h2⟩ := ih h'
      refine ⟨by rw [e]; simpa using h1, ?_⟩
      simp only [lset, e, List.set_cons_succ, List.getElem_cons_succ]
      rw [if_pos c, h2]
    · have e : pl ((k, v) :: r) key = 0 := by simp only [pl]; rw [if_neg c]
      have h2 : key.toList = k.toList := Classical.byContradiction fun z => by simp only [lget, if_neg c, if_neg z] at h; simp at h
      refine ⟨by rw [e]; simp, ?_⟩
      simp only [lset, e]
      rw [if_neg c, if_pos h2]; rfl
theorem lcut_new (l : List (ByteArray × Int)) (key : ByteArray) (h : lget l key = none) : lcut l key = l := by
  induction l with
  | nil => rfl
  | cons p r ih =>
    obtain ⟨k, v⟩ := p
    by_cases c : Tree.lt k key = true
    · have h' : lget r key = none := by simpa only [lget, if_pos c] using h
      simp only [lcut]; rw [if_pos c, ih h']
    · have h2 : ¬ key.toList = k.toList := fun z => by simp only [lget, if_neg c, if_pos z] at h; cases h
      simp only [lcut]; rw [if_neg c, if_neg h2]
theorem lcut_old (l : List (ByteArray × Int)) (key : ByteArray) (h : (lget l key).isSome = true) : pl l key < l.length ∧ lcut l key = l.take (pl l key) ++ l.drop (pl l key + 1) := by
  induction l with
  | nil => simp [lget] at h
  | cons p r ih =>
    obtain ⟨k, v⟩ := p
    by_cases c : Tree.lt k key = true
    · have e : pl ((k, v) :: r) key = pl r key + 1 := by simp only [pl]; rw [if_pos c]
      have h' : (lget r key).isSome = true := by simpa only [lget, if_pos c] using h
      obtain ⟨h1, h2⟩ := ih h'
      refine ⟨by rw [e]; simpa using h1, ?_⟩
      simp only [lcut, e, List.take_succ_cons, List.drop_succ_cons]
      rw [if_pos c, h2]; rfl
    · have e : pl ((k, v) :: r) key = 0 := by simp only [pl]; rw [if_neg c]
      have h2 : key.toList = k.toList := Classical.byContradiction fun z => by simp only [lget, if_neg c, if_neg z] at h; simp at h
      refine ⟨by rw [e]; simp, ?_⟩
      simp only [lcut, e]
      rw [if_neg c, if_pos h2]; rfl
def RefF (W : World) (g : Nat) (l : List (ByteArray × Int)) (fp : List Nat) : Prop := ∃ v, W.heap[g]? = some (.cells #[v] 29 (0, 0)) ∧ Items W v l ∧ g ∉ ownList v ∧ fp = g :: ownList v
theorem RefF.mod {W W' : World} {g : Nat} {l : List (ByteArray × Int)} {fp fp2 : List Nat} (h : RefF W g l fp) (m : Mod W W' fp2) (hd : ∀ x ∈ fp, x ∉ fp2) : RefF W' g l fp := by
  obtain ⟨v, h1, h2, h3, rfl⟩ := h
  exact ⟨v, m.at_ h1 (hd g (by simp)), h2.mod m (fun y hy => hd y (by simp [hy])), h3, rfl⟩
theorem RefF.lt {W : World} {g : Nat} {l : List (ByteArray × Int)} {fp : List Nat} (h : RefF W g l fp) : ∀ x ∈ fp, x < W.heap.size := by
  obtain ⟨v, h1, h2, h3, rfl⟩ := h
  intro x hx
  rcases List.mem_cons.1 hx with rfl | hx
  · exact blk_lt h1
  · exact h2.lt x hx
def PlP (W : World) (l : List (ByteArray × Int)) (key : ByteArray) (e : Ending) (W' : World) : Prop := e = .returned (.tuple #[.int .i64 (pl l key), .bool (lget l key).isSome]) ∧ Mod W W' []
set_option maxHeartbeats 4000000 in
theorem place_calls {W : World} {g : Nat} {l : List (ByteArray × Int)} {fp : List Nat} (key : ByteArray) (h : RefF W g l fp) (hl : l.length ≤ 1000000000) :
    Calls Try.prog 21 #[.pointer (some ⟨g, 0, none⟩), .string key] W (PlP W l key) := by
  obtain ⟨v, h1, h2, h3, rfl⟩ := h
  obtain ⟨A, c, rfl, hlc, _⟩ := h2.C
  have hc0 : W.cell? ⟨g, 0, none⟩ = some (.slice A l.length c) := (blk_cell h1 0).trans rfl
  have H := Lib.hid (And.intro h2 hl)
  clear h1 h2 h3 hl
  go_enter Try.func21, Try.ntmps21
  go_wp2_with fail
  go_loopg [6] l.length (fun k i wr => wr = W ∧ ∃ j : Nat, j ≤ pl l key ∧ k = l.length - j ∧ i = .int .i64 j)
  case atStart => exact ⟨rfl, 0, Nat.zero_le _, rfl, rfl⟩
  case round =>
    obtain ⟨rfl, j, hj, rfl, rfl⟩ := hrel
    have hpl := pl_le l key
    by_cases hjl : j < l.length
    · have hjz : (j : Int) < (l.length : Int) := by omega
      have hj0 : (0 : Int) ≤ (j : Int) := by omega
      obtain ⟨q, c', hv, -, hcell⟩ := H.out.1.cells (by omega)
      injection hv with e1 e2 e3
      subst e1
      have hk := (hcell j hjl).1
      clear hcell
      cases hlt : Tree.lt (l[j].1) key with
      | true =>
        have e1 : Op.bytesLess (l[j].1.toList) key.toList = true := hlt
        have hne : j ≠ pl l key := fun z => by
          have := pl_at l key (by omega)
          simp only [← z] at this
          rw [hlt] at this; cases this
        have hw : IntKind.i64.wrap ((j : Int) + 1) = ((j + 1 : Nat) : Int) := by have := H.out.2; unfold IntKind.wrap; simp [IntKind.signed, IntKind.bits]; omega
        clear hlt
        go_wp2_with fail
        go_roundg (l.length - (j + 1))
        case measure => omega
        case rel => exact ⟨rfl, j + 1, by omega, rfl, by rw [show ((j + 1 : Nat) : Int) = (j : Int) + 1 by omega]⟩
      | false =>
        have e1 : Op.bytesLess (l[j].1.toList) key.toList = false := hlt
        have hje : j = pl l key := by
          rcases Nat.lt_or_ge j (pl l key) with z | z
          · have := pl_lt l key j hjl z
            rw [hlt] at this; cases this
          · omega
        have hg := lget_pl l key
        simp only [← hje] at hg
        rw [dif_pos hjl] at hg
        cases e2 : (l[j].1.toList == key.toList) with
        | true =>
          have e3 : (lget l key).isSome = true := by rw [hg, if_pos (eq_of_beq e2).symm]; rfl
          have HE := Lib.hid (And.intro hje e3)
          clear hlt hg hje e3 hpl hj
          go_wp2_with fail
          go_quiet (fail)
          go_wp2
          go_ret2
          refine ⟨?_, (Mod.refl _ _).drewN _⟩
          rw [HE.out.2, ← HE.out.1]; rfl
        | false =>
          have e3 : (lget l key).isSome = false := by rw [hg, if_neg (fun z => by rw [z] at e2; simp at e2)]; rfl
          have HE := Lib.hid (And.intro hje e3)
          clear hlt hg hje e3 hpl hj
          go_wp2_with fail
          go_quiet (fail)
          go_wp2
          go_ret2
          refine ⟨?_, (Mod.refl _ _).drewN _⟩
          rw [HE.out.2, ← HE.out.1]; rfl
    · have hje : j = l.length := by omega
      have e3 : (lget l key).isSome = false := by rw [lget_pl, dif_neg (by omega)]; rfl
      have hz : ¬ ((l.length : Nat) : Int) < (l.length : Int) := by omega
      have hp : pl l key = l.length := by omega
      subst hje
      have HE := Lib.hid (And.intro hp e3)
      clear hp e3 hpl hj hjl
      go_wp2_with fail
      go_quiet (fail)
      go_wp2
      go_ret2
      refine ⟨?_, (Mod.refl _ _).drewN _⟩
      rw [HE.out.2, HE.out.1]; rfl
theorem info53 : (Try.prog.info? 53).map (fun i => (i.zero, i.size, i.bytes)) = some (some (.agg #[.string ByteArray.empty, .int .i64 0]), 2, 24) := by kernel_rfl
def GetP (W : World) (l : List (ByteArray × Int)) (key : ByteArray) (e : Ending) (W' : World) : Prop := e = getEnd (lget l key) ∧ Mod W W' []
set_option maxHeartbeats 4000000 in
theorem rget_calls {W : World} {g : Nat} {l : List (ByteArray × Int)} {fp : List Nat} (key : ByteArray) (h : RefF W g l fp) (hl : l.length ≤ 1000000000) :
    Calls Try.prog 14 #[.pointer (some ⟨g, 0, none⟩), .string key] W (GetP W l key) := by
  have H := Lib.hid (And.intro h hl)
  clear h hl
  go_enter Try.func14, Try.ntmps14
  go_wp2_with fail
  refine (place_calls key H.out.1 H.out.2).mono ?_
  rintro e W1 ⟨rfl, m1⟩
  have h1 := H.out.1.mod m1 (by simp)
  have HM := Lib.hid m1
  clear m1
  cases hq : lget l key with
  | none =>
    have HQ := Lib.hid hq
    clear hq h1
    simp only [Option.isSome_none]
    go_wp2
    go_ret2
    refine ⟨?_, HM.out⟩
    rw [HQ.out]; rfl
  | some x =>
    have hp := lget_pl l key
    rw [hq] at hp
    have hlt : pl l key < l.length := Classical.byContradiction fun z => by rw [dif_neg z] at hp; cases hp
    rw [dif_pos hlt] at hp
    have hx : l[pl l key].2 = x := by
      split at hp
      · exact (Option.some.inj hp).symm
      · cases hp
    obtain ⟨v, h1, h2, h3, h4⟩ := h1
    obtain ⟨q, c, rfl, hlc, hcell⟩ := h2.cells (by omega)
    have hc0 : W1.cell? ⟨g, 0, none⟩ = some (.slice (some ⟨q, 0, none⟩) l.length c) := (blk_cell h1 0).trans rfl
    have hc1 := (hcell _ hlt).2.1
    rw [hx] at hc1
    have HQ := Lib.hid hq
    have hz : ((pl l key : Nat) : Int) < (l.length : Int) := by omega
    clear hq hp hx h1 h2 h3 h4 hcell
    simp only [Option.isSome_some]
    generalize pl l key = p at *
    go_wp2
    go_ret2
    refine ⟨?_, HM.out⟩
    rw [HQ.out]; rfl
theorem lset_old' (l : List (ByteArray × Int)) (key : ByteArray) (x : Int) (h : (lget l key).isSome = true) : ∃ k y, l[pl l key]? = some (k, y) ∧ lset l key x = l.set (pl l key) (k, x) := by
  obtain ⟨hl, e⟩ := lset_old l key x h
  exact ⟨l[pl l key].1, l[pl l key].2, List.getElem?_eq_getElem hl, e⟩
theorem Items.put' {W : World} {g c : Nat} {l : List (ByteArray × Int)} (h : Items W (.slice (some ⟨g, 0, none⟩) l.length c) l) {i : Nat} {k : ByteArray} {y : Int} (hi : l[i]? = some (k, y)) (x : Int) : Items (W.setCell ⟨g, i * 2 + 1, none⟩ (.int .i64 x)) (.slice (some ⟨g, 0, none⟩) l.length c) (l.set i (k, x)) := by
  obtain ⟨h1, h2⟩ := List.getElem?_eq_some_iff.1 hi
  have := h.put i h1 x
  rw [h2] at this
  exact this
theorem Items.cells' {W : World} {v : Value} {l : List (ByteArray × Int)} (h : Items W v l) (hn : 0 < l.length) : ∃ g c, v = .slice (some ⟨g, 0, none⟩) l.length c ∧ l.length ≤ c ∧ ∀ i k y, l[i]? = some (k, y) → W.cell? ⟨g, i * 2, none⟩ = some (.string k) ∧ W.cell? ⟨g, i * 2 + 1, none⟩ = some (.int .i64 y) ∧ W.frozen? ⟨g, i * 2 + 1, none⟩ = false := by
  obtain ⟨g, c, h1, h2, h3⟩ := h.cells hn
  refine ⟨g, c, h1, h2, fun i k y hi => ?_⟩
  obtain ⟨h4, h5⟩ := List.getElem?_eq_some_iff.1 hi
  have := h3 i h4
  rw [h5] at this
  exact this
theorem own_mem (v : Value) : ∀ y ∈ ownList v, v.ownBlock = some y := by
  intro y hy
  unfold ownList at hy
  split at hy
  · simp only [List.mem_singleton] at hy; subst hy; rfl
  · simp at hy
theorem own_own' (v : Value) : ∀ y, v.ownBlock = some y → y ∈ ownList v := by
  intro y hy
  unfold Value.ownBlock at hy
  split at hy
  · simp only [Option.some.injEq] at hy
    simp [ownList, hy]
  · cases hy
theorem mod_own {W1 W2 : World} {v : Value} (hg : W1.grownBy W2 v.ownBlock) : Mod W1 W2 (ownList v) := mod_grown (Mod.refl W1 _) hg (own_own' v)
theorem R_form {W : World} {v : Value} {l : List (ByteArray × Int)} {ok : Nat → Prop} (h : kI.R 53 W 0 ok v l) : ∃ A n c, v = .slice A n c := by
  obtain ⟨A, c, e, _⟩ := Kd.R_reads h
  exact ⟨A, l.length, c, e⟩
def RSetP (W : World) (g : Nat) (l : List (ByteArray × Int)) (fp : List Nat) (key : ByteArray) (x : Int) (e : Ending) (W' : World) : Prop :=
  e = .returned (.tuple #[]) ∧ ∃ fp', RefF W' g (lset l key x) fp' ∧ Mod W W' fp ∧ ∀ y ∈ fp', y ∈ fp ∨ W.heap.size ≤ y
set_option maxHeartbeats 4000000 in
theorem rset_calls {W : World} {g : Nat} {l : List (ByteArray × Int)} {fp : List Nat} (key : ByteArray) (x : Int) (h : RefF W g l fp) (hl : l.length ≤ 1000000000) :
    Calls Try.prog 10 #[.pointer (some ⟨g, 0, none⟩), .string key, .int .i64 x] W (RSetP W g l fp key x) := by
  have H := Lib.hid (And.intro h hl)
  clear h hl
  go_enter Try.func10, Try.ntmps10
  go_wp2_with fail
  refine (place_calls key H.out.1 H.out.2).mono ?_
  rintro e W1 ⟨rfl, m1⟩
  have hr1 := H.out.1.mod m1 (by simp)
  have HM := Lib.hid m1
  clear m1
  obtain ⟨v, h1, h2, h3, h4⟩ := hr1
  cases hq : (lget l key).isSome with
  | true =>
    obtain ⟨k0, y0, hk, hset⟩ := lset_old' l key x hq
    have hlt := (List.getElem?_eq_some_iff.1 hk).1
    obtain ⟨q, c, rfl, hlc, hcell⟩ := h2.cells' (by omega)
    have hc0 : W1.cell? ⟨g, 0, none⟩ = some (.slice (some ⟨q, 0, none⟩) l.length c) := (blk_cell h1 0).trans rfl
    have hc1 := (hcell _ _ _ hk).2.1
    have hf1 := (hcell _ _ _ hk).2.2
    have hz : ((pl l key : Nat) : Int) < (l.length : Int) := by omega
    have HX := Lib.hid (And.intro hset (And.intro h1 (And.intro h2 (And.intro h3 h4))))
    have HK := Lib.hid hk
    clear hq hset h1 h2 h3 h4 hcell hlt hk
    generalize hp : pl l key = p at *
    have HP := Lib.hid hp
    clear hp
    go_wp2
    go_end0
    obtain ⟨hset, h1, h2, h3, h4⟩ := HX.out
    have hgq : g ≠ q := fun z => h3 (by simp [ownList, z])
    refine ⟨rfl, g :: ownList (.slice (some ⟨q, 0, none⟩) l.length c), ⟨.slice (some ⟨q, 0, none⟩) l.length c, blk_far h1 hgq _, ?_, h3, rfl⟩, ?_, fun y hy => .inl (by rw [h4]; exact hy)⟩
    · rw [hset]
      exact h2.put' HK.out x
    · exact (HM.out.mono (by simp)).setCell (.inl (by rw [h4]; simp [ownList])) _
  | false =>
    have hn : lget l key = none := by cases hh : lget l key with | none => rfl | some _ => rw [hh] at hq; cases hq
    have hset : lset l key x = l.take (pl l key) ++ (key, x) :: l.drop (pl l key) := (lset_new l key x hn).trans (by simp)
    obtain ⟨A, c, rfl, hlc, hC⟩ := h2.C
    have hc0 : W1.cell? ⟨g, 0, none⟩ = some (.slice A l.length c) := (blk_cell h1 0).trans rfl
    have hpl := pl_le l key
    have hz : ((pl l key : Nat) : Int) ≤ (l.length : Int) := by omega
    have hzc : ((pl l key : Nat) : Int) ≤ (c : Int) := by omega
    have HX := Lib.hid (And.intro hset (And.intro h1 (And.intro h2 (And.intro h3 h4))))
    have HL := Lib.hid (And.intro hpl (And.intro hlc hC))
    clear hq hset h1 h2 h3 h4 hpl hn hC
    generalize hp : pl l key = p at *
    have HP := Lib.hid hp
    clear hp
    go_wp2_with (first | (at_builtin; refine Kd.R_append_rows kI (w0 := W1) 0 rfl _ _ 27 53 (.agg #[.string ByteArray.empty, .int .i64 0]) 24 rfl Try.underlying27 info53 rfl (by decide) (by decide) (.slice none 0 0) [] (l.take p) A p c (fun k => W1.heap.size ≤ k) (fun _ => False) rfl rfl (Kd.R_nil _ _ _ _ _) ?b0 (fun x cs h => h) (fun k h => h.elim) (fun k h => h) ?b1 (Nat.zero_le _) ?b2 ?_) | fail)
    case b0 => 
      have e := Kd.C_take HL.out.2.2 HL.out.1
      have hl : (l.take p).length = p := by rw [List.length_take]; have := HL.out.1; omega
      rw [hl] at e
      exact e
    case b1 => exact Below.refl _ _
    case b2 => have := HL.out.1; have := H.out.2; simp; omega
    intro v2 W2 o2 _ g2 _
    have m2 : Mod W1 W2 [] := mod_own g2
    have H2 := Lib.hid (And.intro o2 m2)
    clear o2 g2 m2
    replace hc0 : W2.cell? ⟨g, 0, none⟩ = some (.slice A l.length c) := (blk_cell (H2.out.2.at_ HX.out.2.1 (by simp)) 0).trans rfl
    go_wp2_with (first | (at_builtin; refine Kd.R_append kI (w0 := W2) (W := W2) 0 rfl _ _ 27 53 (.agg #[.string ByteArray.empty, .int .i64 0]) 24 rfl Try.underlying27 info53 rfl (by decide) (by decide) v2 (l.take p) (key, x) [.string key, .int .i64 x] (fun k => W1.heap.size ≤ k) (fun _ => False) rfl rfl ⟨[.string key], [.int .i64 x], rfl, rfl, rfl⟩ (fun k h => h.elim) ?d0 H2.out.1 ?d1 (Nat.zero_le _) ?d2 ?_) | fail)
    case d0 => exact fun k h => Nat.le_trans H2.out.2.size h
    case d1 => exact Below.refl _ _
    case d2 => have := HL.out.1; have := H.out.2; simp; omega
    intro v3 W3 o3 _ g3 hat3
    have ok2 : ∀ y ∈ ownList v2, W1.heap.size ≤ y := fun y hy => H2.out.1.1 y (own_mem _ y hy)
    have m3 : Mod W1 W3 [] := H2.out.2.trans (mod_own g3) (fun y hy => .inr (ok2 y hy))
    have H3 := Lib.hid (And.intro o3 m3)
    clear o3 g3 m3 hat3 ok2
    replace hc0 : W3.cell? ⟨g, 0, none⟩ = some (.slice A l.length c) := (blk_cell (H3.out.2.at_ HX.out.2.1 (by simp)) 0).trans rfl
    have hf0 : ∀ (V : World), Mod W1 V [] → V.frozen? ⟨g, 0, none⟩ = false := fun V hV => blk_frozen (hV.at_ HX.out.2.1 (by simp)) 0
    have HF := Lib.hid hf0
    clear hf0
    by_cases hcp : c = p
    · have e : kI.C W3 A (l.length - p) (l.drop p) := by
        have e := Kd.C_drop (Kd.C_below HL.out.2.2 H3.out.2.bel) HL.out.1 HL.out.2.1
        rw [List.length_drop, if_pos hcp] at e
        exact e
      have HC := Lib.hid e
      clear e
      go_wp2_with (first | (at_builtin; refine Kd.R_append_rows kI (w0 := W3) (W := W3) 0 rfl _ _ 27 53 (.agg #[.string ByteArray.empty, .int .i64 0]) 24 rfl Try.underlying27 info53 rfl (by decide) (by decide) v3 (l.take p ++ [(key, x)]) (l.drop p) _ _ _ (fun k => W1.heap.size ≤ k) (fun _ => False) rfl rfl H3.out.1 ?b0 (fun x cs h => h) (fun k h => h.elim) ?b3 ?b1 (Nat.zero_le _) ?b2 ?_) | fail)
      case b0 => exact HC.out
      case b1 => exact Below.refl _ _
      case b2 => have := HL.out.1; have := H.out.2; simp; omega
      case b3 => exact fun k h => Nat.le_trans H3.out.2.size h
      intro v4 W4 o4 _ g4 _
      obtain ⟨A4, n4, c4, rfl⟩ := R_form o4
      rw [← HX.out.1] at o4
      have ok3 : ∀ y ∈ ownList v3, W1.heap.size ≤ y := fun y hy => H3.out.1.1 y (own_mem _ y hy)
      have m4 : Mod W1 W4 [] := H3.out.2.trans (mod_own g4) (fun y hy => .inr (ok3 y hy))
      have H4 := Lib.hid (And.intro o4 m4)
      have hf0 := HF.out W4 m4
      clear o4 g4 m4 ok3
      replace hc0 : W4.cell? ⟨g, 0, none⟩ = some (.slice A l.length c) := (blk_cell (H4.out.2.at_ HX.out.2.1 (by simp)) 0).trans rfl
      go_wp2
      go_end0
      obtain ⟨hset, h1, h2, h3, h4⟩ := HX.out
      have ok4 : ∀ y ∈ ownList (.slice A4 n4 c4), W1.heap.size ≤ y := fun y hy => H4.out.1.1 y (own_mem _ y hy)
      have hgl : g < W1.heap.size := blk_lt h1
      have h1' := H4.out.2.at_ h1 (by simp)
      have M5 : Mod W4 (W4.setCell ⟨g, 0, none⟩ (.slice A4 n4 c4)) [g] := (Mod.refl W4 _).setCell (.inl (by simp)) _
      have i4 : Items W4 (.slice A4 n4 c4) (lset l key x) := R.items H4.out.1
      refine ⟨rfl, g :: ownList (.slice A4 n4 c4), ⟨.slice A4 n4 c4, blk_put h1' 0 (.slice A4 n4 c4) rfl, i4.mod M5 (fun y hy hm => by have := ok4 y hy; simp only [List.mem_singleton] at hm; omega), fun hm => by have := ok4 g hm; omega, rfl⟩, ?_, fun y hy => ?_⟩
      · exact ((HM.out.trans H4.out.2 (by simp)).mono (by simp)).trans M5 (fun y hy => .inl (by rw [h4]; simp only [List.mem_singleton] at hy; simp [hy]))
      · rcases List.mem_cons.1 hy with rfl | hy
        · exact .inl (by rw [h4]; simp)
        · exact .inr (Nat.le_trans HM.out.size (ok4 y hy))
    · have e : kI.C W3 (A.map (·.add (p * 2))) (l.length - p) (l.drop p) := by
        have e := Kd.C_drop (Kd.C_below HL.out.2.2 H3.out.2.bel) HL.out.1 HL.out.2.1
        rw [List.length_drop, if_neg hcp] at e
        exact e
      have HC := Lib.hid e
      clear e
      go_wp2_with (first | (at_builtin; refine Kd.R_append_rows kI (w0 := W3) (W := W3) 0 rfl _ _ 27 53 (.agg #[.string ByteArray.empty, .int .i64 0]) 24 rfl Try.underlying27 info53 rfl (by decide) (by decide) v3 (l.take p ++ [(key, x)]) (l.drop p) _ _ _ (fun k => W1.heap.size ≤ k) (fun _ => False) rfl rfl H3.out.1 ?b0 (fun x cs h => h) (fun k h => h.elim) ?b3 ?b1 (Nat.zero_le _) ?b2 ?_) | fail)
      case b0 => exact HC.out
      case b1 => exact Below.refl _ _
      case b2 => have := HL.out.1; have := H.out.2; simp; omega
      case b3 => exact fun k h => Nat.le_trans H3.out.2.size h
      intro v4 W4 o4 _ g4 _
      obtain ⟨A4, n4, c4, rfl⟩ := R_form o4
      rw [← HX.out.1] at o4
      have ok3 : ∀ y ∈ ownList v3, W1.heap.size ≤ y := fun y hy => H3.out.1.1 y (own_mem _ y hy)
      have m4 : Mod W1 W4 [] := H3.out.2.trans (mod_own g4) (fun y hy => .inr (ok3 y hy))
      have H4 := Lib.hid (And.intro o4 m4)
      have hf0 := HF.out W4 m4
      clear o4 g4 m4 ok3
      replace hc0 : W4.cell? ⟨g, 0, none⟩ = some (.slice A l.length c) := (blk_cell (H4.out.2.at_ HX.out.2.1 (by simp)) 0).trans rfl
      go_wp2
      go_end0
      obtain ⟨hset, h1, h2, h3, h4⟩ := HX.out
      have ok4 : ∀ y ∈ ownList (.slice A4 n4 c4), W1.heap.size ≤ y := fun y hy => H4.out.1.1 y (own_mem _ y hy)
      have hgl : g < W1.heap.size := blk_lt h1
      have h1' := H4.out.2.at_ h1 (by simp)
      have M5 : Mod W4 (W4.setCell ⟨g, 0, none⟩ (.slice A4 n4 c4)) [g] := (Mod.refl W4 _).setCell (.inl (by simp)) _
      have i4 : Items W4 (.slice A4 n4 c4) (lset l key x) := R.items H4.out.1
      refine ⟨rfl, g :: ownList (.slice A4 n4 c4), ⟨.slice A4 n4 c4, blk_put h1' 0 (.slice A4 n4 c4) rfl, i4.mod M5 (fun y hy hm => by have := ok4 y hy; simp only [List.mem_singleton] at hm; omega), fun hm => by have := ok4 g hm; omega, rfl⟩, ?_, fun y hy => ?_⟩
      · exact ((HM.out.trans H4.out.2 (by simp)).mono (by simp)).trans M5 (fun y hy => .inl (by rw [h4]; simp only [List.mem_singleton] at hy; simp [hy]))
      · rcases List.mem_cons.1 hy with rfl | hy
        · exact .inl (by rw [h4]; simp)
        · exact .inr (Nat.le_trans HM.out.size (ok4 y hy))
def RCutP (W : World) (g : Nat) (l : List (ByteArray × Int)) (fp : List Nat) (key : ByteArray) (e : Ending) (W' : World) : Prop :=
  e = .returned (.bool (lget l key).isSome) ∧ ∃ fp', RefF W' g (lcut l key) fp' ∧ Mod W W' fp ∧ ∀ y ∈ fp', y ∈ fp ∨ W.heap.size ≤ y
set_option maxHeartbeats 4000000 in
theorem rcut_calls {W : World} {g : Nat} {l : List (ByteArray × Int)} {fp : List Nat} (key : ByteArray) (h : RefF W g l fp) (hl : l.length ≤ 1000000000) :
    Calls Try.prog 12 #[.pointer (some ⟨g, 0, none⟩), .string key] W (RCutP W g l fp key) := by
  have H := Lib.hid (And.intro h hl)
  clear h hl
  go_enter Try.func12, Try.ntmps12
  go_wp2_with fail
  refine (place_calls key H.out.1 H.out.2).mono ?_
  rintro e W1 ⟨rfl, m1⟩
  have hr1 := H.out.1.mod m1 (by simp)
  have HM := Lib.hid m1
  clear m1
  cases hq : (lget l key).isSome with
  | false =>
    have hn : lget l key = none := by cases hh : lget l key with | none => rfl | some _ => rw [hh] at hq; cases hq
    have HX := Lib.hid (And.intro (lcut_new l key hn) (And.intro hr1 hq))
    clear hq hn hr1
    go_wp2
    go_ret
    refine ⟨by rw [HX.out.2.2]; rfl, fp, by rw [HX.out.1]; exact HX.out.2.1, HM.out.mono (by simp), fun y hy => .inl hy⟩
  | true =>
    obtain ⟨v, h1, h2, h3, h4⟩ := hr1
    obtain ⟨hlt, hset⟩ := lcut_old l key hq
    obtain ⟨A, c, rfl, hlc, hC⟩ := h2.C
    have hc0 : W1.cell? ⟨g, 0, none⟩ = some (.slice A l.length c) := (blk_cell h1 0).trans rfl
    have hz : ((pl l key : Nat) : Int) ≤ (l.length : Int) := by omega
    have hzc : ((pl l key : Nat) : Int) ≤ (c : Int) := by omega
    have hz1 : ((pl l key + 1 : Nat) : Int) ≤ (l.length : Int) := by omega
    have hz1c : ((pl l key + 1 : Nat) : Int) ≤ (c : Int) := by omega
    have hw : IntKind.i64.wrap (((pl l key : Nat) : Int) + 1) = ((pl l key + 1 : Nat) : Int) := by have := H.out.2; unfold IntKind.wrap; simp [IntKind.signed, IntKind.bits]; omega
    have HX := Lib.hid (And.intro hset (And.intro h1 (And.intro h2 (And.intro h3 h4))))
    have HQ := Lib.hid hq
    have HL := Lib.hid (And.intro hlt (And.intro hlc hC))
    clear hq hset h1 h2 h3 h4 hlt hC
    generalize hp : pl l key = p at *
    have HP := Lib.hid hp
    clear hp
    go_wp2_with (first | (at_builtin; refine Kd.R_append_rows kI (w0 := W1) 0 rfl _ _ 27 53 (.agg #[.string ByteArray.empty, .int .i64 0]) 24 rfl Try.underlying27 info53 rfl (by decide) (by decide) (.slice none 0 0) [] (l.take p) A p c (fun k => W1.heap.size ≤ k) (fun _ => False) rfl rfl (Kd.R_nil _ _ _ _ _) ?b0 (fun x cs h => h) (fun k h => h.elim) (fun k h => h) ?b1 (Nat.zero_le _) ?b2 ?_) | fail)
    case b0 =>
      have e := Kd.C_take HL.out.2.2 (Nat.le_of_lt HL.out.1)
      have hl : (l.take p).length = p := by rw [List.length_take]; have := HL.out.1; omega
      rw [hl] at e
      exact e
    case b1 => exact Below.refl _ _
    case b2 => have := HL.out.1; have := H.out.2; simp; omega
    intro v3 W3 o3 _ g3 _
    have m3 : Mod W1 W3 [] := mod_own g3
    have H3 := Lib.hid (And.intro o3 m3)
    clear o3 g3 m3
    replace hc0 : W3.cell? ⟨g, 0, none⟩ = some (.slice A l.length c) := (blk_cell (H3.out.2.at_ HX.out.2.1 (by simp)) 0).trans rfl
    have hf0 : ∀ (V : World), Mod W1 V [] → V.frozen? ⟨g, 0, none⟩ = false := fun V hV => blk_frozen (hV.at_ HX.out.2.1 (by simp)) 0
    have HF := Lib.hid hf0
    clear hf0
    by_cases hcp : c = p + 1
    · have e : kI.C W3 A (l.length - (p + 1)) (l.drop (p + 1)) := by
        have e := Kd.C_drop (Kd.C_below HL.out.2.2 H3.out.2.bel) (show p + 1 ≤ l.length from HL.out.1) HL.out.2.1
        rw [List.length_drop, if_pos hcp] at e
        exact e
      have HC := Lib.hid e
      clear e
      go_wp2_with (first | (at_builtin; refine Kd.R_append_rows kI (w0 := W3) (W := W3) 0 rfl _ _ 27 53 (.agg #[.string ByteArray.empty, .int .i64 0]) 24 rfl Try.underlying27 info53 rfl (by decide) (by decide) v3 ([] ++ l.take p) (l.drop (p + 1)) _ _ _ (fun k => W1.heap.size ≤ k) (fun _ => False) rfl rfl H3.out.1 ?b0 (fun x cs h => h) (fun k h => h.elim) ?b3 ?b1 (Nat.zero_le _) ?b2 ?_) | fail)
      case b0 => exact HC.out
      case b1 => exact Below.refl _ _
      case b2 => have := HL.out.1; have := H.out.2; simp; omega
      case b3 => exact fun k h => Nat.le_trans H3.out.2.size h
      intro v4 W4 o4 _ g4 _
      obtain ⟨A4, n4, c4, rfl⟩ := R_form o4
      rw [← HX.out.1] at o4
      have ok3 : ∀ y ∈ ownList v3, W1.heap.size ≤ y := fun y hy => H3.out.1.1 y (own_mem _ y hy)
      have m4 : Mod W1 W4 [] := H3.out.2.trans (mod_own g4) (fun y hy => .inr (ok3 y hy))
      have H4 := Lib.hid (And.intro o4 m4)
      have hf0 := HF.out W4 m4
      clear o4 g4 m4 ok3
      replace hc0 : W4.cell? ⟨g, 0, none⟩ = some (.slice A l.length c) := (blk_cell (H4.out.2.at_ HX.out.2.1 (by simp)) 0).trans rfl
      go_wp2
      go_ret
      obtain ⟨hset, h1, h2, h3, h4⟩ := HX.out
      have ok4 : ∀ y ∈ ownList (.slice A4 n4 c4), W1.heap.size ≤ y := fun y hy => H4.out.1.1 y (own_mem _ y hy)
      have hgl : g < W1.heap.size := blk_lt h1
      have h1' := H4.out.2.at_ h1 (by simp)
      have M5 : Mod W4 (W4.setCell ⟨g, 0, none⟩ (.slice A4 n4 c4)) [g] := (Mod.refl W4 _).setCell (.inl (by simp)) _
      have i4 : Items W4 (.slice A4 n4 c4) (lcut l key) := R.items H4.out.1
      refine ⟨by rw [HQ.out]; rfl, g :: ownList (.slice A4 n4 c4), ⟨.slice A4 n4 c4, blk_put h1' 0 (.slice A4 n4 c4) rfl, i4.mod M5 (fun y hy hm => by have := ok4 y hy; simp only [List.mem_singleton] at hm; omega), fun hm => by have := ok4 g hm; omega, rfl⟩, ?_, fun y hy => ?_⟩
      · exact ((HM.out.trans H4.out.2 (by simp)).mono (by simp)).trans M5 (fun y hy => .inl (by rw [h4]; simp only [List.mem_singleton] at hy; simp [hy]))
      · rcases List.mem_cons.1 hy with rfl | hy
        · exact .inl (by rw [h4]; simp)
        · exact .inr (Nat.le_trans HM.out.size (ok4 y hy))
    · have e : kI.C W3 (A.map (·.add ((p + 1) * 2))) (l.length - (p + 1)) (l.drop (p + 1)) := by
        have e := Kd.C_drop (Kd.C_below HL.out.2.2 H3.out.2.bel) (show p + 1 ≤ l.length from HL.out.1) HL.out.2.1
        rw [List.length_drop, if_neg hcp] at e
        exact e
      have HC := Lib.hid e
      clear e
      go_wp2_with (first | (at_builtin; refine Kd.R_append_rows kI (w0 := W3) (W := W3) 0 rfl _ _ 27 53 (.agg #[.string ByteArray.empty, .int .i64 0]) 24 rfl Try.underlying27 info53 rfl (by decide) (by decide) v3 ([] ++ l.take p) (l.drop (p + 1)) _ _ _ (fun k => W1.heap.size ≤ k) (fun _ => False) rfl rfl H3.out.1 ?b0 (fun x cs h => h) (fun k h => h.elim) ?b3 ?b1 (Nat.zero_le _) ?b2 ?_) | fail)
      case b0 => exact HC.out
      case b1 => exact Below.refl _ _
      case b2 => have := HL.out.1; have := H.out.2; simp; omega
      case b3 => exact fun k h => Nat.le_trans H3.out.2.size h
      intro v4 W4 o4 _ g4 _
      obtain ⟨A4, n4, c4, rfl⟩ := R_form o4
      rw [← HX.out.1] at o4
      have ok3 : ∀ y ∈ ownList v3, W1.heap.size ≤ y := fun y hy => H3.out.1.1 y (own_mem _ y hy)
      have m4 : Mod W1 W4 [] := H3.out.2.trans (mod_own g4) (fun y hy => .inr (ok3 y hy))
      have H4 := Lib.hid (And.intro o4 m4)
      have hf0 := HF.out W4 m4
      clear o4 g4 m4 ok3
      replace hc0 : W4.cell? ⟨g, 0, none⟩ = some (.slice A l.length c) := (blk_cell (H4.out.2.at_ HX.out.2.1 (by simp)) 0).trans rfl
      go_wp2
      go_ret
      obtain ⟨hset, h1, h2, h3, h4⟩ := HX.out
      have ok4 : ∀ y ∈ ownList (.slice A4 n4 c4), W1.heap.size ≤ y := fun y hy => H4.out.1.1 y (own_mem _ y hy)
      have hgl : g < W1.heap.size := blk_lt h1
      have h1' := H4.out.2.at_ h1 (by simp)
      have M5 : Mod W4 (W4.setCell ⟨g, 0, none⟩ (.slice A4 n4 c4)) [g] := (Mod.refl W4 _).setCell (.inl (by simp)) _
      have i4 : Items W4 (.slice A4 n4 c4) (lcut l key) := R.items H4.out.1
      refine ⟨by rw [HQ.out]; rfl, g :: ownList (.slice A4 n4 c4), ⟨.slice A4 n4 c4, blk_put h1' 0 (.slice A4 n4 c4) rfl, i4.mod M5 (fun y hy hm => by have := ok4 y hy; simp only [List.mem_singleton] at hm; omega), fun hm => by have := ok4 g hm; omega, rfl⟩, ?_, fun y hy => ?_⟩
      · exact ((HM.out.trans H4.out.2 (by simp)).mono (by simp)).trans M5 (fun y hy => .inl (by rw [h4]; simp only [List.mem_singleton] at hy; simp [hy]))
      · rcases List.mem_cons.1 hy with rfl | hy
        · exact .inl (by rw [h4]; simp)
        · exact .inr (Nat.le_trans HM.out.size (ok4 y hy))
def acK (l : List (ByteArray × Int)) (lo hi : ByteArray) (limit : Int) (j : Nat) : List ByteArray := (rangeL (l.take j) lo hi).take limit.toNat
theorem rangeL_step (l : List (ByteArray × Int)) (lo hi : ByteArray) (j : Nat) (h : j < l.length) : rangeL (l.take (j + 1)) lo hi = rangeL (l.take j) lo hi ++ (if inR lo hi l[j].1 = true then [l[j].1] else []) := by
  rw [List.take_succ_eq_append_getElem h, rangeL_app]
  congr 1
  simp [rangeL, List.filter_cons]
theorem acK_in (l : List (ByteArray × Int)) (lo hi : ByteArray) (limit : Int) (j : Nat) (h : j < l.length) (hr : inR lo hi l[j].1 = true) (hl : ((acK l lo hi limit j).length : Int) < limit) : acK l lo hi limit (j + 1) = acK l lo hi limit j ++ [l[j].1] := by
  have hlen : (acK l lo hi limit j).length = min limit.toNat (rangeL (l.take j) lo hi).length := by rw [acK, List.length_take]
  have h2 : (rangeL (l.take j) lo hi).length < limit.toNat := by omega
  have t1 : (rangeL (l.take j) lo hi).take limit.toNat = rangeL (l.take j) lo hi := List.take_of_length_le (by omega)
  have t2 : (rangeL (l.take j) lo hi ++ [l[j].1]).take limit.toNat = rangeL (l.take j) lo hi ++ [l[j].1] := List.take_of_length_le (by rw [List.length_append, List.length_singleton]; omega)
  rw [acK, acK, rangeL_step l lo hi j h, if_pos hr, t1, t2]
theorem acK_out (l : List (ByteArray × Int)) (lo hi : ByteArray) (limit : Int) (j : Nat) (h : j < l.length) (hr : inR lo hi l[j].1 = false) : acK l lo hi limit (j + 1) = acK l lo hi limit j := by
  rw [acK, acK, rangeL_step l lo hi j h, if_neg (by rw [hr]; simp), List.append_nil]
theorem acK_end (l : List (ByteArray × Int)) (lo hi : ByteArray) (limit : Int) (j : Nat) (hl : ¬ ((acK l lo hi limit j).length : Int) < limit) : acK l lo hi limit j = (rangeL l lo hi).take limit.toNat := by
  have hlen : (acK l lo hi limit j).length = min limit.toNat (rangeL (l.take j) lo hi).length := by rw [acK, List.length_take]
  have e : rangeL l lo hi = rangeL (l.take j) lo hi ++ rangeL (l.drop j) lo hi := by rw [← rangeL_app, List.take_append_drop]
  rw [e, List.take_append_of_le_length (by omega)]; rfl
theorem acK_le (l : List (ByteArray × Int)) (lo hi : ByteArray) (limit : Int) (j : Nat) : (acK l lo hi limit j).length ≤ l.length := by
  rw [acK, List.length_take]
  have : (rangeL (l.take j) lo hi).length ≤ l.length := by
    unfold rangeL
    refine Nat.le_trans (List.length_filter_le _ _) ?_
    rw [List.length_map, List.length_take]; omega
  omega
theorem inR_eq (lo hi k : ByteArray) : inR lo hi k = (!(Tree.lt k lo) && (hi.toList.isEmpty || Tree.lt k hi)) := by
  have h1 : (Tree.lt lo k = true ∨ lo.toList = k.toList) ↔ Tree.lt k lo = false := by
    constructor
    · rintro (h | h)
      · exact lt_as h
      · rw [← lt_l h, lt_irr]
    · intro h
      by_cases e : k.toList = lo.toList
      · exact .inr e.symm
      · exact .inl (lt_tot h e)
  have h2 : (hi.toList = []) ↔ hi.toList.isEmpty = true := by cases hi.toList <;> simp
  unfold inR
  cases a : Tree.lt k lo <;> cases b : hi.toList.isEmpty <;> cases c : Tree.lt k hi <;> simp [h1, h2, a, b, c]
theorem inR_eq' (lo hi k : ByteArray) : inR lo hi k = (!(Op.bytesLess k.toList lo.toList) && (hi.toList.isEmpty || Op.bytesLess k.toList hi.toList)) := inR_eq lo hi k
set_option maxHeartbeats 4000000 in
theorem rkeys_calls {W : World} {g : Nat} {l : List (ByteArray × Int)} {fp : List Nat} (lo hi : ByteArray) (limit : Int) (h : RefF W g l fp) (hl : l.length ≤ 1000000000) :
    Calls Try.prog 18 #[.pointer (some ⟨g, 0, none⟩), .string lo, .string hi, .int .i64 limit] W (KeysM W ((rangeL l lo hi).take limit.toNat)) := by
  obtain ⟨v, h1, h2, h3, rfl⟩ := h
  obtain ⟨A, c, rfl, hlc, _⟩ := h2.C
  have H := Lib.hid (And.intro h1 (And.intro h2 hl))
  clear h1 h2 h3 hl
  go_enter Try.func18, Try.ntmps18
  go_wp2_with fail
  go_loopg [9, 10] l.length (fun k lv i wr => ∃ j : Nat, j ≤ l.length ∧ k = l.length - j ∧ i = .int .i64 j ∧ Kd.string.R 9 wr 0 (fun b => W.heap.size ≤ b) lv (acK l lo hi limit j) ∧ Mod W wr [])
  case atStart => exact ⟨0, Nat.zero_le _, rfl, rfl, by
    have e : acK l lo hi limit 0 = [] := by simp [acK, rangeL]
    rw [e]; exact Kd.R_nil _ _ _ _ _, Mod.refl _ _⟩
  case round =>
    obtain ⟨j, hj, rfl, rfl, hR, hM⟩ := hrel
    obtain ⟨B, d, rfl, hd, hC⟩ := Kd.R_reads hR
    have hle := acK_le l lo hi limit j
    have HJ := Lib.hid (And.intro hR (And.intro hM hle))
    clear hR hd hC
    have hc0 : wr.cell? ⟨g, 0, none⟩ = some (.slice A l.length c) := (blk_cell (hM.at_ H.out.1 (by simp)) 0).trans rfl
    clear hM hle
    by_cases hjl : j < l.length
    · by_cases hlim : ((acK l lo hi limit j).length : Int) < limit
      · have hjz : (j : Int) < (l.length : Int) := by omega
        obtain ⟨q, c', hv, -, hcell⟩ := (H.out.2.1.mod HJ.out.2.1 (by simp)).cells (by omega)
        injection hv with e1 e2 e3
        subst e1
        have hk := (hcell j hjl).1
        clear hcell e2 e3
        have hin := acK_in l lo hi limit j hjl
        have hout := acK_out l lo hi limit j hjl
        rw [inR_eq'] at hin hout
        generalize l[j].1 = k at hk hin hout
        have hw : IntKind.i64.wrap ((j : Int) + 1) = ((j + 1 : Nat) : Int) := by have := H.out.2.2; unfold IntKind.wrap; simp [IntKind.signed, IntKind.bits]; omega
        generalize hac : acK l lo hi limit j = ac at *
        have HO := Lib.hid (And.intro hin hout)
        clear hin hout hac
        cases ca : Op.bytesLess k.toList lo.toList with
        | true =>
          have HI := Lib.hid (HO.out.2 (by rw [ca]; rfl))
          go_wp2
          go_roundg (l.length - (j + 1))
          case measure => omega
          case rel => exact ⟨j + 1, by omega, rfl, by rw [show ((j + 1 : Nat) : Int) = (j : Int) + 1 by omega], by rw [HI.out]; exact HJ.out.1, HJ.out.2.1⟩
        | false =>
          cases cb : hi.toList.isEmpty with
          | true =>
            have HI := Lib.hid (HO.out.1 (by rw [ca, cb]; rfl) hlim)
            go_wp2_with (first | (at_builtin; refine Kd.R_append Kd.string (w0 := wr) (W := wr) 0 rfl _ _ 38 9 (.string ByteArray.empty) 16 rfl Try.underlying38 info9 rfl (by decide) (by decide) (.slice B ac.length d) ac k [.string k] (fun b => W.heap.size ≤ b) (fun _ => False) rfl rfl rfl (fun k h => h.elim) ?d0 HJ.out.1 ?d1 (Nat.zero_le _) ?d2 ?_) | fail)
            case d0 => exact fun k h => Nat.le_trans HJ.out.2.1.size h
            case d1 => exact Below.refl _ _
            case d2 => have := HJ.out.2.2; have := H.out.2.2; omega
            intro v2 W2 o2 _ g2 _
            have ok2 : ∀ y ∈ ownList (.slice B ac.length d), W.heap.size ≤ y := fun y hy => HJ.out.1.1 y (own_mem _ y hy)
            have m2 : Mod W W2 [] := HJ.out.2.1.trans (mod_own g2) (fun y hy => .inr (ok2 y hy))
            have H2 := Lib.hid (And.intro o2 m2)
            clear o2 g2 m2 ok2
            go_wp2
            go_roundg (l.length - (j + 1))
            case measure => omega
            case rel => exact ⟨j + 1, by omega, rfl, by rw [show ((j + 1 : Nat) : Int) = (j : Int) + 1 by omega], by rw [HI.out]; exact H2.out.1, H2.out.2⟩
          | false =>
            cases cc : Op.bytesLess k.toList hi.toList with
            | true =>
              have HI := Lib.hid (HO.out.1 (by rw [ca, cb, cc]; rfl) hlim)
              go_wp2_with (first | (at_builtin; refine Kd.R_append Kd.string (w0 := wr) (W := wr) 0 rfl _ _ 38 9 (.string ByteArray.empty) 16 rfl Try.underlying38 info9 rfl (by decide) (by decide) (.slice B ac.length d) ac k [.string k] (fun b => W.heap.size ≤ b) (fun _ => False) rfl rfl rfl (fun k h => h.elim) ?d0 HJ.out.1 ?d1 (Nat.zero_le _) ?d2 ?_) | fail)
              case d0 => exact fun k h => Nat.le_trans HJ.out.2.1.size h
              case d1 => exact Below.refl _ _
              case d2 => have := HJ.out.2.2; have := H.out.2.2; omega
              intro v2 W2 o2 _ g2 _
              have ok2 : ∀ y ∈ ownList (.slice B ac.length d), W.heap.size ≤ y := fun y hy => HJ.out.1.1 y (own_mem _ y hy)
              have m2 : Mod W W2 [] := HJ.out.2.1.trans (mod_own g2) (fun y hy => .inr (ok2 y hy))
              have H2 := Lib.hid (And.intro o2 m2)
              clear o2 g2 m2 ok2
              go_wp2
              go_roundg (l.length - (j + 1))
              case measure => omega
              case rel => exact ⟨j + 1, by omega, rfl, by rw [show ((j + 1 : Nat) : Int) = (j : Int) + 1 by omega], by rw [HI.out]; exact H2.out.1, H2.out.2⟩
            | false =>
              have HI := Lib.hid (HO.out.2 (by rw [ca, cb, cc]; rfl))
              go_wp2
              go_roundg (l.length - (j + 1))
              case measure => omega
              case rel => exact ⟨j + 1, by omega, rfl, by rw [show ((j + 1 : Nat) : Int) = (j : Int) + 1 by omega], by rw [HI.out]; exact HJ.out.1, HJ.out.2.1⟩
      · have hjz : (j : Int) < (l.length : Int) := by omega
        have HE := Lib.hid (acK_end l lo hi limit j hlim)
        generalize hac : acK l lo hi limit j = ac at *
        clear hac
        go_wp2
        go_ret
        rw [← HE.out]
        exact ⟨_, rfl, R_own HJ.out.1, fun y hy => HJ.out.1.1 y (own_mem _ y hy), HJ.out.2.1⟩
    · have hjz : ¬ (j : Int) < (l.length : Int) := by omega
      have HE : Hid (acK l lo hi limit j = (rangeL l lo hi).take limit.toNat) := Lib.hid (by
        have e : l.take j = l := List.take_of_length_le (by omega)
        rw [acK, e])
      generalize hac : acK l lo hi limit j = ac at *
      clear hac
      go_wp2
      go_ret
      rw [← HE.out]
      exact ⟨_, rfl, R_own HJ.out.1, fun y hy => HJ.out.1.1 y (own_mem _ y hy), HJ.out.2.1⟩
end Go.Proofs.Ythfaacheolhjnaa.Ord
