/- The layer 'verdict': VerM; a seat's own text, no law of its own. -/
import Derived.Test.YtdelbidaclddgaaVerL
import Derived.Deep.LoopGhost
import Derived.Deep.Cut
import Derived.Lib.Hide
import Derived.StillTailTactics
import Derived.Deep.QuietTactic
import Derived.BigQuiet
import Derived.Outline
import Derived.Deep.RegionWith
import Derived.Deep.RegionHeld3
import Derived.WalkLawsBesides
namespace Go.Proofs.Ytdelbidaclddgaa.Ver
open Go.RowKit Go.Proofs.YtdelbidaclddgaaW.PrintWords Go.Proofs.Ytdelbidaclddgaa.MVerdictRuns Go.Proofs.YtdelbidaclddgaaW.PrintLast
set_option linter.unusedVariables false
set_option linter.unusedSimpArgs false
/-! what Set, Done and Retire do to one verdict's place -/
theorem find_set (c n : Int) (x : S37) : ∀ (L : List S37), findV c n (setV x L) = if x.f0.f0 = c ∧ x.f0.f1 = n then some x else findV c n L
  | [] => by
    show List.find? _ [x] = _
    rw [List.find?_cons]
    by_cases h : x.f0.f0 = c ∧ x.f0.f1 = n
    · rw [if_pos h, decide_eq_true (show kcV x = c ∧ knV x = n from h)]
    · rw [if_neg h, decide_eq_false (show ¬ (kcV x = c ∧ knV x = n) from h)]
      rfl
  | y :: r => by
    have ih := find_set c n x r
    have fc : ∀ (z : S37) (l : List S37), findV c n (z :: l) = if z.f0.f0 = c ∧ z.f0.f1 = n then some z else findV c n l := fun z l => by
      show List.find? _ (z :: l) = _
      rw [List.find?_cons]
      by_cases h : z.f0.f0 = c ∧ z.f0.f1 = n
      · rw [if_pos h, decide_eq_true (show kcV z = c ∧ knV z = n from h)]
      · rw [if_neg h, decide_eq_false (show ¬ (kcV z = c ∧ knV z = n) from h)]
        rfl
    show findV c n (vset kcV knV x (y :: r)) = _
    rw [vset]
    by_cases h1 : kcV x < kcV y ∨ kcV x = kcV y ∧ knV x < knV y
    · rw [if_pos h1, fc]
    · rw [if_neg h1]
      by_cases h2 : kcV x = kcV y ∧ knV x = knV y
      · rw [if_pos h2, fc, fc]
        by_cases h : x.f0.f0 = c ∧ x.f0.f1 = n
        · rw [if_pos h, if_pos h]
        · have h' : ¬ (y.f0.f0 = c ∧ y.f0.f1 = n) := fun e => h ⟨h2.1.trans e.1, h2.2.trans e.2⟩
          rw [if_neg h, if_neg h, if_neg h']
      · rw [if_neg h2, fc, fc]
        rw [ih]
        by_cases h : x.f0.f0 = c ∧ x.f0.f1 = n
        · have h' : ¬ (y.f0.f0 = c ∧ y.f0.f1 = n) := fun e => h2 ⟨h.1.trans e.1.symm, h.2.trans e.2.symm⟩
          rw [if_pos h, if_neg h', if_pos h]
        · rw [if_neg h, if_neg h]
theorem find_kept {c n : Int} {L : List S37} {v : S37} (h : findV c n L = some v) {f : S37 → Bool} (hf : f v = true) : findV c n (L.filter f) = some v := by
  unfold findV vfind at h ⊢
  induction L with
  | nil => cases h
  | cons y r ih =>
    rw [List.find?_cons] at h
    rw [List.filter_cons]
    split at h
    · rename_i hy
      obtain rfl := Option.some.inj h
      rw [if_pos hf, List.find?_cons, hy]
    · rename_i hy
      split
      · rw [List.find?_cons, hy]; exact ih h
      · exact ih h
theorem find_gone {c n : Int} {L : List S37} {v : S37} (hO : OrdV L) (h : findV c n L = some v) {f : S37 → Bool} (hf : f v = false) : findV c n (L.filter f) = none := by
  obtain ⟨k1, k2, hm⟩ := find_key h
  unfold findV vfind
  rw [List.find?_eq_none]
  intro x hx
  obtain ⟨hx1, hx2⟩ := List.mem_filter.1 hx
  intro he
  have he : kcV x = c ∧ knV x = n := by simpa using he
  have e1 : x.f0.f0 = c := he.1
  have e2 : x.f0.f1 = n := he.2
  have : x = v := by
    have key : ∀ {l : List S37}, OrdV l → x ∈ l → v ∈ l → x = v := by
      intro l hl hu hv
      induction l with
      | nil => cases hu
      | cons z r ih =>
        obtain ⟨o1, o2⟩ := List.pairwise_cons.1 hl
        rcases List.mem_cons.1 hu with e1' | hu2
        · rcases List.mem_cons.1 hv with e2' | hv2
          · exact e1'.trans e2'.symm
          · have := o1 v hv2; rw [← e1'] at this; unfold kcV knV at this; omega
        · rcases List.mem_cons.1 hv with e2' | hv2
          · have := o1 x hu2; rw [← e2'] at this; unfold kcV knV at this; omega
          · exact ih o2 hu2 hv2
    exact key hO hx1 hm
  rw [this, hf] at hx2
  cases hx2
/-- the verdict stands as it was set, but that all may know -/
def Inv (L : List S37) (u : S37) (d : Bool) : Prop := findV u.f0.f0 u.f0.f1 L = some { u with f4 := d } ∧ (d = true → commB u = true)
theorem inv_set {L : List S37} {u : S37} {d : Bool} (h : Inv L u d) (a : S37) : Inv (setR L a).2 u d := by
  refine ⟨?_, h.2⟩
  unfold setR
  split
  · exact h.1
  · split
    · rename_i hn
      show findV _ _ (setV a L) = _
      rw [find_set, if_neg (fun e => by rw [e.1, e.2, h.1] at hn; cases hn)]
      exact h.1
    · split <;> exact h.1
theorem inv_ret {L : List S37} {u : S37} {d : Bool} (h : Inv L u d) (s : S35) (keep : List S32) (hk : diesB s keep { u with f4 := d } = false) : Inv (retL s keep L) u d :=
  ⟨find_kept h.1 (by rw [hk]; rfl), h.2⟩
def keyB (u : S37) (c n : Int) : Bool := c == u.f0.f0 && (n == u.f0.f1)
theorem inv_done {L : List S37} {u : S37} {d : Bool} (h : Inv L u d) (c n : Int) : Inv (doneR L c n).2 u (if ((doneR L c n).1 && keyB u c n) = true then true else d) := by
  by_cases hk : keyB u c n = true
  · have hk2 : c = u.f0.f0 ∧ n = u.f0.f1 := by unfold keyB at hk; simpa using hk
    obtain ⟨rfl, rfl⟩ := hk2
    have hc : commB ({ u with f4 := d } : S37) = commB u := rfl
    unfold doneR
    rw [h.1]
    simp only [hc]
    by_cases hq : commB u = true
    · rw [if_pos hq, hk]
      simp only [Bool.and_self, if_true]
      refine ⟨?_, fun _ => hq⟩
      rw [find_set, if_pos ⟨rfl, rfl⟩]
    · rw [if_neg hq]
      simp only [Bool.false_and, Bool.false_eq_true, if_false]
      exact h
  · have hk0 : keyB u c n = false := Bool.eq_false_iff.2 hk
    rw [hk0, Bool.and_false]
    simp only [Bool.false_eq_true, if_false]
    have hne : ¬ (c = u.f0.f0 ∧ n = u.f0.f1) := fun e => hk (by unfold keyB; simp [e.1, e.2])
    refine ⟨?_, h.2⟩
    unfold doneR
    split
    · exact h.1
    · rename_i o ho
      obtain ⟨k1, k2, _⟩ := find_key ho
      split
      · show findV _ _ (setV _ L) = _
        rw [find_set, if_neg (fun e => hne ⟨k1.symm.trans e.1, k2.symm.trans e.2⟩)]
        exact h.1
      · exact h.1
/-- the end of VerdictStays: the last retiring takes the verdict just where the document says -/
theorem stays_end {L : List S37} {u : S37} {d : Bool} (hO : OrdV L) (h : Inv L u d) (hr : rightB u.f1.f0 u.f1.f1 = true) :
    (findV u.f0.f0 u.f0.f1 (retL ⟨281474976710656, 4095⟩ [] L)).isSome = ((u.f1.f0 == 281474976710656 && (u.f1.f1 == 4095)) || (commB u && !d)) := by
  have hd : diesB ⟨281474976710656, 4095⟩ [] { u with f4 := d } = (!(u.f1.f0 == 281474976710656 && (u.f1.f1 == 4095)) && (d || !commB u)) := by
    unfold diesB hasB lessB
    unfold rightB at hr
    simp only [Bool.and_eq_true, decide_eq_true_eq] at hr
    have hc : commB ({ u with f4 := d } : S37) = commB u := rfl
    rw [hc]
    have e : decide (u.f1.f0 < 281474976710656 ∨ u.f1.f0 = 281474976710656 ∧ u.f1.f1 < 4095) = !(u.f1.f0 == 281474976710656 && (u.f1.f1 == 4095)) := by
      rw [Bool.eq_iff_iff]
      simp
      omega
    rw [e]
    simp
  cases hq : diesB ⟨281474976710656, 4095⟩ [] { u with f4 := d }
  · rw [(inv_ret h _ _ hq).1, Option.isSome_some]
    rw [hq] at hd
    generalize (u.f1.f0 == 281474976710656 && (u.f1.f1 == 4095)) = g at hd ⊢
    generalize commB u = q at hd ⊢
    cases g <;> cases q <;> cases d <;> first | rfl | cases hd
  · rw [show findV u.f0.f0 u.f0.f1 (retL ⟨281474976710656, 4095⟩ [] L) = none from find_gone hO h.1 (by rw [hq]; rfl), Option.isSome_none]
    rw [hq] at hd
    generalize (u.f1.f0 == 281474976710656 && (u.f1.f1 == 4095)) = g at hd ⊢
    generalize commB u = q at hd ⊢
    cases g <;> cases q <;> cases d <;> first | rfl | cases hd
end Go.Proofs.Ytdelbidaclddgaa.Ver
