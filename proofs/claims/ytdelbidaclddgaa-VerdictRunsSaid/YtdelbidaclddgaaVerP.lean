/- The layer 'verdict': VerP; a seat's own text, no law of its own. -/
import Derived.Test.YtdelbidaclddgaaVerN
import Derived.Deep.LoopGhost
import Derived.Deep.Cut
import Derived.Lib.Hide
import Derived.StillTailTactics
import Derived.Deep.QuietTactic
import Derived.BigQuiet
import Derived.Outline
import Derived.Deep.RegionWith
import Derived.Deep.RegionHeld3
import Derived.WalkLawsBesides
namespace Go.Proofs.Ytdelbidaclddgaa.Ver
open Go.RowKit Go.Proofs.YtdelbidaclddgaaW.PrintWords Go.Proofs.Ytdelbidaclddgaa.MVerdictRuns Go.Proofs.YtdelbidaclddgaaW.PrintLast
set_option linter.unusedVariables false
set_option linter.unusedSimpArgs false
/-! VerdictOrder: a map of the names seen; what stands in a book that was fed in some order -/
def gB (_ : S37) : DataW Unit := .lit (.bool true)
def RB (v : Value) : Option (DataW Unit × List MemPlace) := match v with
  | .bool x => some (.lit (.bool x), [])
  | _ => none
theorem zero4 (w : World) : (zeroValue 4).run Try.prog w = .ok (.bool false) w := by kernel_rfl
structure SeenM (W : World) (b n : Nat) (K : List S37) : Prop where
  hm : W.ownsMap Try.prog 32 RB b n (mapD kcV knV gB K)
  ord : OrdV K
  rgs : RgsV K
theorem SeenM.mod {W W' : World} {b n : Nat} {K : List S37} {fp : List Nat} (h : SeenM W b n K) (m : Mod W W' fp) (h2 : b ∉ fp) : SeenM W' b n K := by
  obtain ⟨⟨es, clock, hb, F⟩, o, r⟩ := h
  exact ⟨⟨es, clock, m.at_ hb h2, F⟩, o, r⟩
set_option maxRecDepth 100000 in
theorem SeenM.look {W : World} {b n : Nat} {K : List S37} (h : SeenM W b n K) {c k : Int} (hk : inK c k) :
    (Instr.lookup 53 (.map (some b)) (keyV c k) false).run Try.prog W = .ok (.bool (findV c k K).isSome) W := by
  obtain ⟨v, ps, hrun, hv⟩ := h.hm.lookup law32 Try.underlying53 (zero4 W) (show RB (.bool false) = some (.lit (.bool false), []) from rfl) (key_of hk)
  obtain ⟨h1, h2, h3, h4⟩ := hk
  rw [map_at h1 h2 h3 h4 K h.rgs] at hv
  rw [hrun]
  unfold RB at hv
  split at hv
  · simp only [Option.some.injEq, Prod.mk.injEq] at hv
    have e := hv.1
    unfold findV
    cases hf : vfind kcV knV c k K with
    | none => rw [hf] at e; simp only [Option.map_none, Option.getD_none] at e; injection e with e; injection e with e; subst e; rfl
    | some x => rw [hf] at e; simp only [Option.map_some, Option.getD_some, gB] at e; injection e with e; injection e with e; subst e; rfl
  · cases hv
set_option maxRecDepth 100000 in
theorem SeenM.put {W : World} {b n : Nat} {K : List S37} (h : SeenM W b n K) (hn : n < maxLen) (x : S37) (hx : Rng kcV knV x) :
    ∃ W', (Instr.mapUpdate 53 (.map (some b)) (keyV x.f0.f0 x.f0.f1) (.bool true)).run Try.prog W = .ok () W' ∧ SeenM W' b (n + 1) (setV x K) ∧ Mod W W' [b] := by
  obtain ⟨W7, hrun, hown, hgr⟩ := h.hm.update law32 Try.underlying53 hn (key_of hx) (show RB (.bool true) = some (.lit (.bool true), []) from rfl)
  have hb7 : (mapD kcV knV gB K).put (klit x.f0.f0 x.f0.f1) (.lit (.bool true)) = mapD kcV knV gB (setV x K) := map_put x hx K h.rgs h.ord
  exact ⟨W7, hrun, ⟨hb7 ▸ hown, vset_ord x h.ord, vset_rgs hx h.rgs⟩, mod_grown (Mod.refl W [b]) hgr (fun y hy => by cases hy; simp)⟩
theorem seen_made (W : World) : SeenM (W.alloc (.map #[] 0)) W.heap.size 0 [] := ⟨World.ownsMap_made W _ _ _, List.Pairwise.nil, fun v hv => by cases hv⟩
theorem vset_has {x : S37} : ∀ {L : List S37}, findV x.f0.f0 x.f0.f1 L = none → ∀ y, y ∈ setV x L ↔ y = x ∨ y ∈ L
  | [], _, y => by show y ∈ [x] ↔ _; simp
  | z :: r, h, y => by
    have hz : ¬ (kcV z = x.f0.f0 ∧ knV z = x.f0.f1) := fun e => by
      have h' : List.find? _ (z :: r) = none := h
      rw [List.find?_cons, decide_eq_true e] at h'
      cases h'
    have hr : findV x.f0.f0 x.f0.f1 r = none := by
      have h' : List.find? _ (z :: r) = none := h
      rw [List.find?_cons, decide_eq_false hz] at h'
      exact h'
    show y ∈ vset kcV knV x (z :: r) ↔ _
    rw [vset]
    by_cases h1 : kcV x < kcV z ∨ kcV x = kcV z ∧ knV x < knV z
    · rw [if_pos h1]; simp
    · rw [if_neg h1]
      by_cases h2 : kcV x = kcV z ∧ knV x = knV z
      · exact absurd ⟨h2.1.symm, h2.2.symm⟩ hz
      · rw [if_neg h2]
        have ih := vset_has hr y
        rw [List.mem_cons, ih, List.mem_cons]
        constructor
        · rintro (e | e | e)
          · exact .inr (.inl e)
          · exact .inl e
          · exact .inr (.inr e)
        · rintro (e | e | e)
          · exact .inr (.inl e)
          · exact .inl e
          · exact .inr (.inr e)
/-- no two of the verdicts speak of one name -/
def Dis (l : List S37) : Prop := ∀ (i j : Nat), i < j → ∀ (x y : S37), l[i]? = some x → l[j]? = some y → ¬ (x.f0.f0 = y.f0.f0 ∧ x.f0.f1 = y.f0.f1)
theorem Dis.ne {l : List S37} (h : Dis l) {i j : Nat} (hij : i ≠ j) {x y : S37} (hx : l[i]? = some x) (hy : l[j]? = some y) : ¬ (x.f0.f0 = y.f0.f0 ∧ x.f0.f1 = y.f0.f1) := by
  rcases Nat.lt_or_gt_of_ne hij with hl | hl
  · exact h i j hl x y hx hy
  · exact fun e => h j i hl y x hy hx ⟨e.1.symm, e.2.symm⟩
/-- the names seen in the first j -/
structure Seen (l : List S37) (j : Nat) (K : List S37) : Prop where
  dis : ∀ (a b : Nat), a < b → b < j → ∀ (x y : S37), l[a]? = some x → l[b]? = some y → ¬ (x.f0.f0 = y.f0.f0 ∧ x.f0.f1 = y.f0.f1)
  has : ∀ (a : Nat), a < j → ∀ (x : S37), l[a]? = some x → (findV x.f0.f0 x.f0.f1 K).isSome = true
theorem Seen.zero (l : List S37) : Seen l 0 [] := ⟨fun a b _ hb => absurd hb (by omega), fun a ha => absurd ha (by omega)⟩
theorem Seen.next {l : List S37} {j : Nat} {K : List S37} (h : Seen l j K) {v : S37} (hv : l[j]? = some v) (hf : (findV v.f0.f0 v.f0.f1 K).isSome = false) : Seen l (j + 1) (setV v K) := by
  refine ⟨fun a b hab hb x y hx hy => ?_, fun a ha x hx => ?_⟩
  · by_cases e : b = j
    · subst e
      rw [hv] at hy
      obtain rfl := Option.some.inj hy
      intro e2
      have h1 := h.has a hab x hx
      rw [e2.1, e2.2, hf] at h1
      cases h1
    · exact h.dis a b hab (by omega) x y hx hy
  · rw [find_set]
    by_cases e : v.f0.f0 = x.f0.f0 ∧ v.f0.f1 = x.f0.f1
    · rw [if_pos e]; rfl
    · rw [if_neg e]
      by_cases e2 : a = j
      · subst e2
        rw [hv] at hx
        obtain rfl := Option.some.inj hx
        exact absurd ⟨rfl, rfl⟩ e
      · exact h.has a (by omega) x hx
theorem Seen.all {l : List S37} {K : List S37} (h : Seen l l.length K) : Dis l := fun i j hij x y hx hy => h.dis i j hij (List.getElem?_eq_some_iff.1 hy).1 x y hx hy
/-- what the book holds after i rounds of the order f -/
def Got (l : List S37) (f : Nat → Nat) (i : Nat) (L : List S37) : Prop := ∀ (x : S37), x ∈ L ↔ ∃ t : Nat, t < i ∧ l[f t]? = some x ∧ badB x = false
theorem Got.zero (l : List S37) (f : Nat → Nat) : Got l f 0 [] := fun x => ⟨fun h => (by cases h), fun ⟨t, ht, _⟩ => absurd ht (by omega)⟩
theorem Got.next {l : List S37} {f : Nat → Nat} {i : Nat} {L : List S37} (h : Got l f i L) (hd : Dis l) (hf : ∀ t, t < i → f t ≠ f i) {v : S37} (hv : l[f i]? = some v) : Got l f (i + 1) (setR L v).2 := by
  unfold setR
  by_cases hb : badB v = true
  · rw [if_pos hb]
    intro x
    rw [h x]
    refine ⟨fun ⟨t, ht, h1, h2⟩ => ⟨t, by omega, h1, h2⟩, fun ⟨t, ht, h1, h2⟩ => ?_⟩
    by_cases e : t = i
    · subst e
      rw [hv] at h1
      obtain rfl := Option.some.inj h1
      rw [hb] at h2; cases h2
    · exact ⟨t, by omega, h1, h2⟩
  · rw [if_neg hb]
    have hn : findV v.f0.f0 v.f0.f1 L = none := by
      cases hq : findV v.f0.f0 v.f0.f1 L with
      | none => rfl
      | some z =>
        obtain ⟨k1, k2, k3⟩ := find_key hq
        obtain ⟨t, ht, h1, h2⟩ := (h z).1 k3
        exact absurd ⟨k1, k2⟩ (hd.ne (hf t ht) h1 hv)
    rw [hn]
    intro x
    show x ∈ setV v L ↔ _
    rw [vset_has hn, h x]
    constructor
    · rintro (rfl | ⟨t, ht, h1, h2⟩)
      · exact ⟨i, by omega, hv, Bool.eq_false_iff.2 hb⟩
      · exact ⟨t, by omega, h1, h2⟩
    · rintro ⟨t, ht, h1, h2⟩
      by_cases e : t = i
      · subst e
        rw [hv] at h1
        exact .inl (Option.some.inj h1).symm
      · exact .inr ⟨t, by omega, h1, h2⟩
theorem ord_ext : ∀ {L M : List S37}, OrdV L → OrdV M → (∀ x, x ∈ L ↔ x ∈ M) → L = M
  | [], [], _, _, _ => rfl
  | [], y :: s, _, _, h => by have := (h y).2 (by simp); cases this
  | x :: r, [], _, _, h => by have := (h x).1 (by simp); cases this
  | x :: r, y :: s, hl, hm, h => by
    obtain ⟨l1, l2⟩ := List.pairwise_cons.1 hl
    obtain ⟨m1, m2⟩ := List.pairwise_cons.1 hm
    have irr : ∀ (z : S37), ¬ (kcV z < kcV z ∨ kcV z = kcV z ∧ knV z < knV z) := fun z => by omega
    have exy : x = y := by
      rcases List.mem_cons.1 ((h x).1 (by simp)) with e | e
      · exact e
      · rcases List.mem_cons.1 ((h y).2 (by simp)) with e2 | e2
        · exact e2.symm
        · have a1 := m1 x e
          have a2 := l1 y e2
          omega
    subst exy
    have : r = s := ord_ext l2 m2 fun z => by
      constructor
      · intro hz
        rcases List.mem_cons.1 ((h z).1 (by simp [hz])) with e | e
        · subst e; exact absurd (l1 z hz) (irr z)
        · exact e
      · intro hz
        rcases List.mem_cons.1 ((h z).2 (by simp [hz])) with e | e
        · subst e; exact absurd (m1 z hz) (irr z)
        · exact e
    rw [this]
/-- the second book's order -/
def turnF (n k t : Nat) : Nat := if n - 1 - t + k < n then n - 1 - t + k else n - 1 - t + k - n
theorem turn_lt {n k t : Nat} (hk : k < n) (ht : t < n) : turnF n k t < n := by unfold turnF; split <;> omega
theorem turn_inj {n k s t : Nat} (hk : k < n) (hs : s < n) (ht : t < n) (h : s ≠ t) : turnF n k s ≠ turnF n k t := by unfold turnF; split <;> split <;> omega
theorem turn_onto {n k s : Nat} (hk : k < n) (hs : s < n) : ∃ t, t < n ∧ turnF n k t = s := by
  by_cases h : n - 1 + k - s < n
  · exact ⟨n - 1 + k - s, h, by unfold turnF; split <;> omega⟩
  · exact ⟨n - 1 + k - s - n, by omega, by unfold turnF; split <;> omega⟩
theorem got_same {l L M : List S37} {k : Nat} (hk : k < l.length) (h1 : Got l id l.length L) (h2 : Got l (turnF l.length k) l.length M) (o1 : OrdV L) (o2 : OrdV M) : L = M := by
  refine ord_ext o1 o2 fun x => ?_
  rw [h1 x, h2 x]
  constructor
  · rintro ⟨t, ht, e, b⟩
    obtain ⟨s, hs, es⟩ := turn_onto hk ht
    exact ⟨s, hs, by rw [es]; exact e, b⟩
  · rintro ⟨t, ht, e, b⟩
    exact ⟨turnF l.length k t, turn_lt hk ht, e, b⟩
theorem all_row {W : World} {base : Nat} {v : Value} {L : List S37} (h : W.ownsRow base 37 8 v L.length (cellsV L)) : ∃ A c, v = .slice A L.length c ∧ L.length ≤ c ∧ Kd.C k37 W A L.length L := by
  obtain ⟨_, ⟨rfl, h0⟩ | ⟨g, cap, cur, rfl, hb, hg, hc, hcm, hs, ht⟩⟩ := id h
  · have e : L = [] := List.eq_nil_of_length_eq_zero h0
    subst e
    exact ⟨none, 0, rfl, Nat.le_refl _, Kd.C_nil k37 W⟩
  · refine ⟨some ⟨g, 0, none⟩, cap, rfl, hc, rfl, Nat.le_trans hc (Nat.le_trans hcm (by decide)), fun h0 => ⟨_, rfl, fun j p hj => ⟨encL p, rfl, k37_mk W p, fun i u hi => ?_⟩⟩⟩
    have hi8 : i < 8 := by have := (List.getElem?_eq_some_iff.1 hi).1; simpa [encL] using this
    have hjl := (List.getElem?_eq_some_iff.1 hj).1
    have hgd : L.getD j z37 = p := by rw [List.getD_eq_getElem?_getD, hj]; rfl
    have e := cells_get L (j * 8 + i) (by omega)
    rw [show (j * 8 + i) / 8 = j by omega, show (j * 8 + i) % 8 = i by omega, hgd, hi] at e
    exact h.cells rfl (j * 8 + i) u e
/-- a verdict's eight cells in its row -/
theorem vd_cells {w : World} {A : Option Addr} {l : List S37} (h : Kd.C k37 w A l.length l) (j : Nat) (hj : j < l.length) : ∃ ad, A = some ad ∧ w.cell? (ad.add (j * 8)) = some (.int .u32 l[j].f0.f0) ∧
    w.cell? ⟨(ad.add (j * 8)).block, (ad.add (j * 8)).off + 1, none⟩ = some (.int .u32 l[j].f0.f1) ∧ w.cell? ⟨(ad.add (j * 8)).block, (ad.add (j * 8)).off + 2, none⟩ = some (.int .u64 l[j].f1.f0) ∧
    w.cell? ⟨(ad.add (j * 8)).block, (ad.add (j * 8)).off + 3, none⟩ = some (.int .u32 l[j].f1.f1) ∧ w.cell? ⟨(ad.add (j * 8)).block, (ad.add (j * 8)).off + 4, none⟩ = some (.int .u64 l[j].f2.f0) ∧
    w.cell? ⟨(ad.add (j * 8)).block, (ad.add (j * 8)).off + 5, none⟩ = some (.int .u32 l[j].f2.f1) ∧ w.cell? ⟨(ad.add (j * 8)).block, (ad.add (j * 8)).off + 6, none⟩ = some (.int .u8 l[j].f3) ∧
    w.cell? ⟨(ad.add (j * 8)).block, (ad.add (j * 8)).off + 7, none⟩ = some (.bool l[j].f4) := by
  obtain ⟨ad, hA, hc⟩ := h.2.2 (by omega)
  obtain ⟨c, h1, h2, h3⟩ := hc j _ (List.getElem?_eq_getElem hj)
  have e := k37_open h2
  subst e
  have hp : ∀ i (u : Value), 0 < i → (encL l[j])[i]? = some u → w.cell? ⟨(ad.add (j * 8)).block, (ad.add (j * 8)).off + i, none⟩ = some u := fun i u hi hu => by
    rw [← add_add ad (j * 8) i hi]; exact h3 i _ hu
  exact ⟨ad, hA, h3 0 _ rfl, hp 1 _ (by omega) rfl, hp 2 _ (by omega) rfl, hp 3 _ (by omega) rfl, hp 4 _ (by omega) rfl, hp 5 _ (by omega) rfl, hp 6 _ (by omega) rfl, hp 7 _ (by omega) rfl⟩
end Go.Proofs.Ytdelbidaclddgaa.Ver
