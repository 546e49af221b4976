/- The layer 'latch': LatT; a seat's own text, no law of its own. -/
import Derived.Test.YtdelbidaclddgaaLatQ
import Derived.Deep.LoopGhost
import Derived.Deep.Cut
import Derived.Deep.CutRange
import Derived.Lib.Hide
import Derived.StillTailTactics
import Derived.Deep.QuietTactic
import Derived.BigQuiet
import Derived.Outline
import Derived.Deep.RegionWith
import Derived.Deep.RegionHeld3
import Derived.WalkLawsBesides
namespace Go.Proofs.Ytdelbidaclddgaa.Lat
open Go.RowKit Go.Proofs.YtdelbidaclddgaaW.PrintWords Go.Proofs.Ytdelbidaclddgaa.MLatchRuns Go.Proofs.YtdelbidaclddgaaW.PrintLast
set_option linter.unusedVariables false
set_option linter.unusedSimpArgs false
/-! LatchWhole -/
attribute [local go_sem high] eqA32 eqA35 eqA63 eqA65
structure Tn (w V : World) (t m : Nat) (L : List S65) (fp : List Nat) : Prop where
  hT : Tab V t m L fp
  gf : ∀ y ∈ fp, w.heap.size ≤ y
  hM : Mod w V []
theorem Tn.mod {w V V' : World} {t m : Nat} {L : List S65} {fp : List Nat} (h : Tn w V t m L fp) (mm : Mod V V' []) : Tn w V' t m L fp := ⟨h.hT.mod0 mm, h.gf, h.hM.trans mm (fun _ hk => by cases hk)⟩
theorem Tn.box {w V : World} {t m : Nat} {L : List S65} {fp : List Nat} (h : Tn w V t m L fp) (o : Obj) : Tq w (V.alloc o) t m L fp V.heap.size o := by
  have m1 : Mod V (V.alloc o) [] := (Mod.refl V []).alloc _
  exact ⟨h.hT.mod0 m1, h.gf, h.hM.trans m1 (fun _ hk => by cases hk), blk_new V _, fun hm => by have := h.hT.lt _ hm; omega⟩
theorem Tq.tn {w V : World} {t m : Nat} {L : List S65} {fp : List Nat} {q : Nat} {o : Obj} (h : Tq w V t m L fp q o) : Tn w V t m L fp := ⟨h.hT, h.gf, h.hM⟩
section
variable {w V W' : World} {t m : Nat} {L : List S65} {fp : List Nat} {q : Nat} {o : Obj}
theorem tq_alln (h : Tq w V t m L fp q o) (mm : Mod V W' []) (hLl : L.length ≤ 1000000) {N : Nat} (hN : L.length = N) :
    Calls Try.prog 27 #[.pointer (some ⟨t, 0, none⟩)] W' fun e W'' => ∃ A k, e = .returned (.slice A N k) ∧ Tq w W'' t m L fp q o ∧ Mod W' W'' [] := by
  subst hN
  exact (tq_all h mm hLl).mono fun e W'' ⟨A, k, h1, _, h2, h3⟩ => ⟨A, k, h1, h2, h3⟩
theorem tq_byn (h : Tq w V t m L fp q o) (mm : Mod V W' []) (hLl : L.length ≤ 1000000) (c n : Int) (hk : inK c n) {N : Nat} (hN : (byL L c n).length = N) :
    Calls Try.prog 29 #[.pointer (some ⟨t, 0, none⟩), .agg #[.int .u32 c, .int .u32 n]] W' fun e W'' => ∃ A k, e = .returned (.slice A N k) ∧ Tq w W'' t m L fp q o ∧ Mod W' W'' [] := by
  subst hN
  exact (tq_by h mm hLl c n hk rfl).mono fun e W'' ⟨A, k, h1, _, h2, h3⟩ => ⟨A, k, h1, h2, h3⟩
theorem tq_cutn (h : Tq w V t m L fp q o) (mm : Mod V W' []) (hLl : L.length ≤ 1000000) (c n : Int) (hk : inK c n) {N : Nat} (hN : (byL L c n).length = N) {L' : List S65} (hL' : offL L c n = L') :
    Calls Try.prog 30 #[.pointer (some ⟨t, 0, none⟩), .agg #[.int .u32 c, .int .u32 n]] W' fun e W'' => ∃ A k, e = .returned (.slice A N k) ∧ ∃ fp', Tq w W'' t m L' fp' q o := by
  subst hN
  exact (tq_cut h mm hLl c n hk rfl hL').mono fun e W'' ⟨A, k, h1, _, h2⟩ => ⟨A, k, h1, h2⟩
theorem tq_lay2 (h : Tq w V t m L fp q o) (mm : Mod V W' []) (hmx : m ≤ 1000000) (hLl : L.length ≤ 1000000) (c n : Int) (hk : inK c n) (st mn : S35) (pr : ByteArray) {A : Option Addr} {cap : Nat} {l : List S63} (hr : Kd.C k63 w A l.length l) (hc : l.length ≤ cap) {r : Int} {L' : List S65} (e1 : layB L c n st mn pr l = r) (e2 : layL L c n st mn pr l = L') :
    Calls Try.prog 26 #[.pointer (some ⟨t, 0, none⟩), .agg #[.int .u32 c, .int .u32 n], .agg #[.int .u64 st.f0, .int .u32 st.f1], .agg #[.int .u64 mn.f0, .int .u32 mn.f1], .string pr, .slice A l.length cap] W' fun e W'' => e = .returned (.int .i64 r) ∧ ∃ fp', Tq w W'' t (m + 1) L' fp' q o := by
  by_cases hl : l.length ≤ 1000000
  · exact tq_lay h mm hmx hLl c n hk st mn pr hr hc hl e1 e2
  have h' := h.mod mm
  have h1 : rightW l = false := by unfold rightW; rw [decide_eq_false (show ¬ l.length ≤ 16 by omega), Bool.and_false]; rfl
  subst e1 e2
  unfold layL
  rw [show layB L c n st mn pr l = 1 by unfold layB; rw [h1]; rfl, if_neg (by omega)]
  refine (lay_bad1 h'.hT c n st mn pr A cap l (Kd.C_below hr h'.hM.bel) hc h1).mono ?_
  rintro e W'' ⟨rfl, ⟨fp', hT, hs⟩, m2⟩
  exact ⟨rfl, fp', h'.step hT hs m2⟩
end
theorem lay_len (L : List S65) (c n : Int) (st mn : S35) (pr : ByteArray) (l : List S63) : (layB L c n st mn pr l = 0 → (layL L c n st mn pr l).length = L.length + l.length ∧ (byL (layL L c n st mn pr l) c n).length = (byL L c n).length + l.length ∧ l.length ≤ 16) ∧ (layB L c n st mn pr l ≠ 0 → layL L c n st mn pr l = L) := by
  refine ⟨fun e => ?_, fun e => by unfold layL; rw [if_neg e]⟩
  have h16 : l.length ≤ 16 := by
    unfold layB at e
    split at e
    · cases e
    · rename_i hr
      have h := Bool.of_not_eq_false hr
      unfold rightW at h
      simp only [Bool.and_eq_true, decide_eq_true_eq] at h
      exact h.1.1.1.1.1.2
  unfold layL
  rw [if_pos e]
  have hp := putJ_perm c n st mn pr l L
  refine ⟨by rw [hp.length_eq, List.length_append, List.length_map], ?_, h16⟩
  unfold byL
  rw [(hp.filter (isBy c n)).length_eq, List.filter_append, List.length_append]
  congr 1
  rw [List.filter_eq_self.2 (fun x hx => ?_), List.length_map]
  obtain ⟨w, _, rfl⟩ := List.mem_map.1 hx
  exact decide_eq_true ⟨rfl, rfl⟩
theorem layB_cases (L : List S65) (c n : Int) (st mn : S35) (pr : ByteArray) (l : List S63) : layB L c n st mn pr l = 0 ∨ layB L c n st mn pr l = 1 ∨ layB L c n st mn pr l = 40 := by
  unfold layB
  split
  · exact .inr (.inl rfl)
  · split
    · exact .inr (.inr rfl)
    · exact .inl rfl
theorem off_len (L : List S65) (c n : Int) : (offL L c n).length = L.length - (byL L c n).length ∧ (byL L c n).length ≤ L.length ∧ (byL (offL L c n) c n).length = 0 := by
  have h1 : (byL L c n).length + (offL L c n).length = L.length := by
    unfold byL offL
    rw [← List.countP_eq_length_filter, ← List.countP_eq_length_filter]
    have := List.length_eq_countP_add_countP (isBy c n) (l := L)
    simp only [Bool.not_eq_true, Bool.decide_eq_false] at this
    omega
  refine ⟨by omega, by omega, ?_⟩
  have : byL (offL L c n) c n = [] := by
    unfold byL offL
    rw [List.filter_filter, List.filter_eq_nil_iff]
    intro x _ h
    simp at h
  rw [this]
  rfl
theorem tq_two {w V W' : World} {t m : Nat} {L : List S65} {fp : List Nat} {q : Nat} {a1 a2 a3 a4 a5 a6 a7 a8 a9 aa : Value} {c n : Int} (h : Tq w V t m L fp q (.cells #[a1, .int .u32 c, .int .u32 n, a2, a3, a4, a5, a6, a7, a8, a9, aa] 58)) (mm : Mod V W' []) : W'.cell? ⟨q, 1, none⟩ = some (.int .u32 c) ∧ W'.cell? ⟨q, 2, none⟩ = some (.int .u32 n) :=
  ⟨(blk_cell (h.mod mm).hx 1).trans rfl, (blk_cell (h.mod mm).hx 2).trans rfl⟩
theorem tq_12 {w V W' : World} {t m : Nat} {L : List S65} {fp : List Nat} {q : Nat} {a0 a1 a2 a3 a4 a5 a6 a7 a8 a9 aa ab : Value} (h : Tq w V t m L fp q (.cells #[a0, a1, a2, a3, a4, a5, a6, a7, a8, a9, aa, ab] 58)) (mm : Mod V W' []) : W'.cell? ⟨q, 0, none⟩ = some a0 ∧ W'.cell? ⟨q, 1, none⟩ = some a1 ∧ W'.cell? ⟨q, 2, none⟩ = some a2 ∧ W'.cell? ⟨q, 3, none⟩ = some a3 ∧ W'.cell? ⟨q, 4, none⟩ = some a4 ∧ W'.cell? ⟨q, 5, none⟩ = some a5 ∧ W'.cell? ⟨q, 6, none⟩ = some a6 ∧ W'.cell? ⟨q, 7, none⟩ = some a7 ∧ W'.cell? ⟨q, 8, none⟩ = some a8 ∧ W'.cell? ⟨q, 9, none⟩ = some a9 ∧ W'.cell? ⟨q, 10, none⟩ = some aa ∧ W'.cell? ⟨q, 11, none⟩ = some ab :=
  ⟨(blk_cell (h.mod mm).hx 0).trans rfl, (blk_cell (h.mod mm).hx 1).trans rfl, (blk_cell (h.mod mm).hx 2).trans rfl, (blk_cell (h.mod mm).hx 3).trans rfl, (blk_cell (h.mod mm).hx 4).trans rfl, (blk_cell (h.mod mm).hx 5).trans rfl, (blk_cell (h.mod mm).hx 6).trans rfl, (blk_cell (h.mod mm).hx 7).trans rfl, (blk_cell (h.mod mm).hx 8).trans rfl, (blk_cell (h.mod mm).hx 9).trans rfl, (blk_cell (h.mod mm).hx 10).trans rfl, (blk_cell (h.mod mm).hx 11).trans rfl⟩
/-! LatchFirst -/
attribute [local go_sem high] eqA32 eqA35 eqA63 eqA65
def AllW (L : List S65) : Prop := ∀ x ∈ L, keyB x.f4.f0 = true
theorem layL_all {L : List S65} (h : AllW L) (c n : Int) (st mn : S35) (pr : ByteArray) (l : List S63) : AllW (layL L c n st mn pr l) ∧ (layL L c n st mn pr l).length ≤ L.length + 16 := by
  unfold layL
  split
  · rename_i e
    have hr : rightW l = true := by
      cases hr : rightW l
      · unfold layB at e; rw [hr] at e; cases e
      · rfl
    unfold rightW at hr
    simp only [Bool.and_eq_true, decide_eq_true_eq] at hr
    have hp := putJ_perm c n st mn pr l L
    refine ⟨fun x hx => ?_, by rw [hp.length_eq, List.length_append, List.length_map]; omega⟩
    rcases List.mem_append.1 (hp.mem_iff.1 hx) with h1 | h1
    · exact h x h1
    · obtain ⟨w, hw, rfl⟩ := List.mem_map.1 h1
      have h2 := List.all_eq_true.1 hr.1.2 w hw
      unfold okW at h2
      simp only [Bool.and_eq_true] at h2
      exact h2.1.1
  · exact ⟨h, by omega⟩
theorem Tab.sorted {W : World} {t m : Nat} {L : List S65} {fp : List Nat} (h : Tab W t m L fp) : Sorted (L.map pairOf) := by
  obtain ⟨hb, kb, Hs, fk, h1, _, _⟩ := h
  exact h1.hk.sorted
/-- the query's box, the table, the answer looked for -/
structure Fq (w V : World) (t m : Nat) (L : List S65) (fp : List Nat) (g : Nat) (o : Obj) (qw : Nat) (y : S65) : Prop where
  hT : Tab V t m L fp
  hM : Mod w V []
  hg : V.heap[g]? = some o
  hy : IB V qw y
  ne : g ≠ qw
  nq : qw ∉ fp
  hw : w.heap.size ≤ qw
theorem Fq.mod {w V V' : World} {t m : Nat} {L : List S65} {fp : List Nat} {g : Nat} {o : Obj} {qw : Nat} {y : S65} (h : Fq w V t m L fp g o qw y) (mm : Mod V V' []) : Fq w V' t m L fp g o qw y :=
  ⟨h.hT.mod0 mm, h.hM.trans mm (fun _ hk => by cases hk), mm.at_ h.hg (by simp), h.hy.mod mm (by simp), h.ne, h.nq, h.hw⟩
theorem Fq.put {w V : World} {t m : Nat} {L : List S65} {fp : List Nat} {g : Nat} {o : Obj} {qw : Nat} {y : S65} (h : Fq w V t m L fp g o qw y) (z : S65) : Fq w (putIB V qw z) t m L fp g o qw z ∧ Mod V (putIB V qw z) [qw] := by
  have m1 := (Mod.refl V [qw]).putIB (g := qw) (.inl (by simp)) z
  exact ⟨⟨h.hT.mod m1 (fun x hx hm => by simp at hm; subst hm; exact h.nq hx), h.hM.trans m1 (fun k hk => .inr (by simp at hk; subst hk; exact h.hw)), m1.at_ h.hg (by simpa using h.ne), h.hy.put z, h.ne, h.nq, h.hw⟩, m1⟩
theorem Fq.made {w V : World} {t m : Nat} {L : List S65} {fp : List Nat} {g : Nat} {o : Obj} (h : Tq w V t m L fp g o) : Fq w (V.alloc (.cells #[.int .u32 z65.f0.f0, .int .u32 z65.f0.f1, .int .u64 z65.f1.f0, .int .u32 z65.f1.f1, .int .u64 z65.f2.f0, .int .u32 z65.f2.f1, .string z65.f3, .string z65.f4.f0, .string z65.f4.f1, .bool z65.f4.f2] 65)) t m L fp g o V.heap.size z65 := by
  have m1 := (Mod.refl V []).alloc (.cells #[.int .u32 z65.f0.f0, .int .u32 z65.f0.f1, .int .u64 z65.f1.f0, .int .u32 z65.f1.f1, .int .u64 z65.f2.f0, .int .u32 z65.f2.f1, .string z65.f3, .string z65.f4.f0, .string z65.f4.f1, .bool z65.f4.f2] 65)
  exact ⟨h.hT.mod0 m1, h.hM.trans m1 (fun _ hk => by cases hk), m1.at_ h.hx (by simp), blk_new V _, by have := blk_lt h.hx; omega, fun hm => by have := h.hT.lt _ hm; omega, by have := h.hM.size; omega⟩
theorem Fq.box {w V : World} {t m : Nat} {L : List S65} {fp : List Nat} {g : Nat} {qw : Nat} {y : S65} {v0 v1 v2 v3 v4 v5 v6 v7 v8 v9 va vb : Value} (h : Fq w V t m L fp g (.cells #[v0, v1, v2, v3, v4, v5, v6, v7, v8, v9, va, vb] 58) qw y) : V.cell? ⟨g, 0, none⟩ = some v0 ∧ V.cell? ⟨g, 1, none⟩ = some v1 ∧ V.cell? ⟨g, 2, none⟩ = some v2 ∧ V.cell? ⟨g, 3, none⟩ = some v3 ∧ V.cell? ⟨g, 4, none⟩ = some v4 ∧ V.cell? ⟨g, 5, none⟩ = some v5 ∧ V.cell? ⟨g, 6, none⟩ = some v6 ∧ V.cell? ⟨g, 7, none⟩ = some v7 ∧ V.cell? ⟨g, 8, none⟩ = some v8 ∧ V.cell? ⟨g, 9, none⟩ = some v9 ∧ V.cell? ⟨g, 10, none⟩ = some va ∧ V.cell? ⟨g, 11, none⟩ = some vb :=
  ⟨(blk_cell h.hg 0).trans rfl, (blk_cell h.hg 1).trans rfl, (blk_cell h.hg 2).trans rfl, (blk_cell h.hg 3).trans rfl, (blk_cell h.hg 4).trans rfl, (blk_cell h.hg 5).trans rfl, (blk_cell h.hg 6).trans rfl, (blk_cell h.hg 7).trans rfl, (blk_cell h.hg 8).trans rfl, (blk_cell h.hg 9).trans rfl, (blk_cell h.hg 10).trans rfl, (blk_cell h.hg 11).trans rfl⟩
theorem key_pos {k : ByteArray} (h : keyB k = true) : Tree.lt ⟨#[]⟩ k = true := by
  refine lt_iff.2 ?_
  unfold keyB at h
  simp only [Bool.and_eq_true, decide_eq_true_eq] at h
  rw [ByteArray.toList_eq, ByteArray.toList_eq]
  have : k.data.toList ≠ [] := fun e => by
    have h2 : k.size = k.data.toList.length := by rw [Array.length_toList]; rfl
    rw [e] at h2
    simp only [List.length_nil] at h2
    omega
  cases hk : k.data.toList with
  | nil => exact absurd hk this
  | cons a b => exact List.Lex.nil
theorem i64n {i : Nat} (h : i < 9223372036854775807) : IntKind.i64.wrap ((i : Int) + 1) = ((i + 1 : Nat) : Int) := by unfold IntKind.wrap; simp [IntKind.signed, IntKind.bits]; omega
theorem st_no {st t0 e : Bool} (h : (st && !t0) = false) : Value.bool false = Value.bool (st && !(t0 || e)) := by
  cases st <;> cases t0 <;> cases e <;> first | rfl | cases h
theorem st_yes {st t0 : Bool} (h : (st && !t0) = true) (a b c d : Int) : Value.bool (!(a == b) || !(c == d)) = Value.bool (st && !(t0 || (b == a && d == c))) := by
  cases st
  · cases h
  · cases t0
    · have e : ∀ p q : Int, (p == q) = (q == p) := fun p q => by
        by_cases h : p = q
        · rw [h]
        · rw [beq_false_of_ne h, beq_false_of_ne (Ne.symm h)]
      rw [e a b, e c d]
      cases (b == a) <;> cases (d == c) <;> rfl
    · cases h
theorem nm_cells {w : World} {A : Option Addr} {l : List S32} (h : Kd.C k32 w A l.length l) (j : Nat) (hj : j < l.length) : ∃ ad, A = some ad ∧ w.cell? (ad.add (j * 2)) = some (.int .u32 l[j].f0) ∧ w.cell? ⟨(ad.add (j * 2)).block, (ad.add (j * 2)).off + 1, none⟩ = some (.int .u32 l[j].f1) := by
  obtain ⟨ad, hA, hc⟩ := h.2.2 (by omega)
  obtain ⟨c, h1, h2, h3⟩ := hc j _ (List.getElem?_eq_getElem hj)
  obtain rfl := k32_open h2
  exact ⟨ad, hA, h3 0 _ rfl, by rw [← add_add ad (j * 2) 1 (by omega)]; exact h3 1 _ rfl⟩
theorem inR_eq (lo hi k : ByteArray) : inR lo hi k = (!(Tree.lt k lo) && (hi.toList.isEmpty || Tree.lt k hi)) := by
  have h1 : (Tree.lt lo k = true ∨ lo.toList = k.toList) ↔ Tree.lt k lo = false := by
    constructor
    · rintro (h | h)
      · exact lt_as h
      · rw [← lt_l h, lt_irr]
    · intro h
      by_cases e : k.toList = lo.toList
      · exact .inr e.symm
      · exact .inl (lt_tot h e)
  have h2 : (hi.toList = []) ↔ hi.toList.isEmpty = true := by cases hi.toList <;> simp
  unfold inR
  cases a : Tree.lt k lo <;> cases b : hi.toList.isEmpty <;> cases c : Tree.lt k hi <;> simp [h1, h2, a, b, c]
theorem st_eq (a : S58) (y : S65) : (inRI a.f6 a.f7 y && !lessB a.f3.f0 a.f3.f1 y.f2.f0 y.f2.f1) = ((!(Op.bytesLess y.f4.f0.toList a.f6.toList) && (a.f7.toList.isEmpty || Op.bytesLess y.f4.f0.toList a.f7.toList)) && (decide (y.f2.f0 < a.f3.f0) || (decide (y.f2.f0 = a.f3.f0) && decide (y.f2.f1 ≤ a.f3.f1)))) := by
  have h1 : inRI a.f6 a.f7 y = (!(Op.bytesLess y.f4.f0.toList a.f6.toList) && (a.f7.toList.isEmpty || Op.bytesLess y.f4.f0.toList a.f7.toList)) := inR_eq _ _ _
  rw [h1]
  congr 1
  unfold lessB
  rw [Bool.eq_iff_iff]
  simp
  omega
def stD (a : S58) (x : S65) : Bool := (inRI a.f6 a.f7 x && !lessB a.f3.f0 a.f3.f1 x.f2.f0 x.f2.f1) && !hasB a.f8 x.f0.f0 x.f0.f1
theorem firstI_eq (a : S58) (L : List S65) : firstI a.f6 a.f7 a.f3.f0 a.f3.f1 a.f8 L = L.find? (stD a) := by
  unfold firstI rngI
  rw [List.find?_filter]
  congr 1
  funext x
  unfold stD standsB
  cases inRI a.f6 a.f7 x <;> cases lessB a.f3.f0 a.f3.f1 x.f2.f0 x.f2.f1 <;> cases hasB a.f8 x.f0.f0 x.f0.f1 <;> rfl
set_option maxHeartbeats 40000000 in
set_option maxRecDepth 100000 in
theorem first_walk {A : Option Addr} {cc : Nat} {l : List S58} {w : World} (hr : Kd.C k58 w A l.length l) (hc : l.length ≤ cc) (hok : ∀ a ∈ l, okAct a) (a : S58) (Aw Ab : Option Addr) (cw cb : Nat) (hcb : a.f8.length ≤ cb) (hkb : Kd.C k32 w Ab a.f8.length a.f8) (hbl : a.f8.length ≤ 4611686018427387904) :
    Calls Try.prog 7 #[.slice A l.length cc, .agg #[.int .i64 a.f0, .int .u32 a.f1.f0, .int .u32 a.f1.f1, .int .u64 a.f2.f0, .int .u32 a.f2.f1, .int .u64 a.f3.f0, .int .u32 a.f3.f1, .string a.f4, .slice Aw a.f5.length cw, .string a.f6, .string a.f7, .slice Ab a.f8.length cb]] w fun e w' => e = .returned (.bool true) ∧ Mod w w' [] := by
  have hr63 : l.length ≤ 9223372036854775807 := hr.2.1
  have HR := Lib.hid (And.intro hr (And.intro hc hok))
  have HB := Lib.hid (And.intro hcb (And.intro hkb hbl))
  have B1 := blk_new w (.cells #[.int .i64 a.f0, .int .u32 a.f1.f0, .int .u32 a.f1.f1, .int .u64 a.f2.f0, .int .u32 a.f2.f1, .int .u64 a.f3.f0, .int .u32 a.f3.f1, .string a.f4, .slice Aw a.f5.length cw, .string a.f6, .string a.f7, .slice Ab a.f8.length cb] 58)
  have M1 := (Mod.refl w []).alloc (.cells #[.int .i64 a.f0, .int .u32 a.f1.f0, .int .u32 a.f1.f1, .int .u64 a.f2.f0, .int .u32 a.f2.f1, .int .u64 a.f3.f0, .int .u32 a.f3.f1, .string a.f4, .slice Aw a.f5.length cw, .string a.f6, .string a.f7, .slice Ab a.f8.length cb] 58)
  clear hr hc hok hcb hkb hbl
  go_enter Try.func7, Try.ntmps7
  go_upto_region 1 with fail
  generalize w.alloc _ = W0 at *
  generalize hgw : w.heap.size = g at *
  go_wp2_with fail
  refine (awake_calls _).mono ?_
  rintro e W1 ⟨rfl, m1⟩
  have B2 := m1.at_ B1 (by simp)
  have M2 := M1.trans m1 (fun _ hk => by cases hk)
  clear B1 M1 m1
  go_wp2_with fail
  refine (newT_calls _).mono ?_
  rintro e V1 ⟨t, fp0, rfl, hT, mv, hn⟩
  have HD : Hid (Tq w V1 t 0 [] fp0 g (.cells #[.int .i64 a.f0, .int .u32 a.f1.f0, .int .u32 a.f1.f1, .int .u64 a.f2.f0, .int .u32 a.f2.f1, .int .u64 a.f3.f0, .int .u32 a.f3.f1, .string a.f4, .slice Aw a.f5.length cw, .string a.f6, .string a.f7, .slice Ab a.f8.length cb] 58)) := Lib.hid ⟨hT, fun y hy => by have := M2.size; have := hn y hy; omega, M2.trans mv (fun _ hk => by cases hk), mv.at_ B2 (by simp), fun hm => by have := hn _ hm; have := blk_lt B2; omega⟩
  clear hT M2 B2 mv hn
  go_wp2_with fail
  go_loopg [24] l.length (fun k i wr => ∃ (j : Nat) (fp : List Nat) (L : List S65), j ≤ l.length ∧ k = l.length - j ∧ i = .int .i64 j ∧ j ≤ 60 ∧ L.length ≤ 16 * j ∧ AllW L ∧ Tq w wr t j L fp g (.cells #[.int .i64 a.f0, .int .u32 a.f1.f0, .int .u32 a.f1.f1, .int .u64 a.f2.f0, .int .u32 a.f2.f1, .int .u64 a.f3.f0, .int .u32 a.f3.f1, .string a.f4, .slice Aw a.f5.length cw, .string a.f6, .string a.f7, .slice Ab a.f8.length cb] 58))
  case atStart => exact ⟨0, _, [], Nat.zero_le _, rfl, rfl, by omega, by simp, (fun x hx => by cases hx), HD.out⟩
  case round =>
    obtain ⟨j, fp, L, hj, rfl, rfl, hj3, hlen, hall, hD⟩ := hrel
    have HN := Lib.hid hD
    clear hD HD
    have HA := Lib.hid hall
    clear hall
    by_cases hjl : j < l.length
    · obtain ⟨ad, A1, cw1, A2, cb1, rfl, hcw, hkw, hcb, hkb, a0, a1, a2, a3, a4, a5, a6, a7, a8, a9, aa, ab⟩ := act_cells2 HR.out.1 HN.out.hM j hjl
      have hjz : (j : Int) < (l.length : Int) := by omega
      by_cases h3 : j = 60
      · subst h3
        have e5 : ad.add (60 * 12) = ⟨ad.block, ad.off + 720, none⟩ := by simp [Addr.add]
        rw [e5] at a0 a1 a2 a3 a4 a5 a6 a7 a8 a9 aa ab
        dsimp only at a0 a1 a2 a3 a4 a5 a6 a7 a8 a9 aa ab
        have m60 := (Mod.refl wr []).alloc (.cells #[.int .i64 l[60].f0, .int .u32 l[60].f1.f0, .int .u32 l[60].f1.f1, .int .u64 l[60].f2.f0, .int .u32 l[60].f2.f1, .int .u64 l[60].f3.f0, .int .u32 l[60].f3.f1, .string l[60].f4, .slice A1 l[60].f5.length cw1, .string l[60].f6, .string l[60].f7, .slice A2 l[60].f8.length cb1] 58)
        have HE := Lib.hid (HN.out.mod m60)
        clear m60 hcw hkw hcb hkb
        go_upto_region 11 with fail
        generalize wr.alloc _ = Vz at *
        clear a0 a1 a2 a3 a4 a5 a6 a7 a8 a9 aa ab e5 HN
        have hz65 : Hid (Fq w (Vz.alloc (.cells #[.int .u32 z65.f0.f0, .int .u32 z65.f0.f1, .int .u64 z65.f1.f0, .int .u32 z65.f1.f1, .int .u64 z65.f2.f0, .int .u32 z65.f2.f1, .string z65.f3, .string z65.f4.f0, .string z65.f4.f1, .bool z65.f4.f2] 65)) t 60 L fp g (.cells #[.int .i64 a.f0, .int .u32 a.f1.f0, .int .u32 a.f1.f1, .int .u64 a.f2.f0, .int .u32 a.f2.f1, .int .u64 a.f3.f0, .int .u32 a.f3.f1, .string a.f4, .slice Aw a.f5.length cw, .string a.f6, .string a.f7, .slice Ab a.f8.length cb] 58) Vz.heap.size z65) := Lib.hid (Fq.made HE.out)
        have F0 := hz65
        simp only [z65, z32, z35, z63] at F0
        clear hz65 HE
        go_upto_region 14 with fail
        generalize Vz.alloc _ = V2 at *
        generalize Vz.heap.size = qw at *
        go_wp2_with fail
        refine (all_calls F0.out.hT (by omega)).mono ?_
        rintro e V3 ⟨A3, k3, rfl, hR, m3⟩
        have hqo : ∀ y ∈ ownList (.slice A3 L.length k3), y ≠ qw := fun y hy e => by have h1 := hR.1 y (own_mem _ y hy); have h2 := blk_lt F0.out.hy; omega
        have HS3 := Lib.hid (And.intro (Row.of hR) (And.intro hqo (And.intro F0.out.hT.sorted HA.out)))
        have F3 := Lib.hid (F0.out.mod m3)
        clear F0 m3 hR hqo HA
        go_wp2_with fail
        go_loopg [9, 10, 50] L.length (fun k fo la ix wr => ∃ (j : Nat) (la' : ByteArray), j ≤ L.length ∧ k = L.length - j ∧ ix = .int .i64 j ∧ la = .string la' ∧ (∀ hj : j < L.length, Tree.lt la' L[j].f4.f0 = true) ∧ fo = .bool ((L.take j).find? (stD a)).isSome ∧ Fq w wr t 60 L fp g (.cells #[.int .i64 a.f0, .int .u32 a.f1.f0, .int .u32 a.f1.f1, .int .u64 a.f2.f0, .int .u32 a.f2.f1, .int .u64 a.f3.f0, .int .u32 a.f3.f1, .string a.f4, .slice Aw a.f5.length cw, .string a.f6, .string a.f7, .slice Ab a.f8.length cb] 58) qw (((L.take j).find? (stD a)).getD z65) ∧ Mod V3 wr [qw])
        case atStart => exact ⟨0, _, Nat.zero_le _, rfl, rfl, rfl, fun hj => key_pos (HS3.out.2.2.2 _ (List.getElem_mem hj)), rfl, F3.out, Mod.refl _ _⟩
        case round =>
          obtain ⟨j, la', hj, rfl, rfl, rfl, hla, rfl, hF, hM⟩ := hrel
          have F5 := Lib.hid hF
          have hrow := HS3.out.1.mod plain65 hM (fun y hy hm => HS3.out.2.1 y hy (by simpa using hm))
          clear hF
          by_cases hjl : j < L.length
          · have hjz : (j : Int) < (L.length : Int) := by omega
            have hw : IntKind.i64.wrap ((j : Int) + 1) = ((j + 1 : Nat) : Int) := by rw [i64w (by omega) (by omega)]; omega
            obtain ⟨A', k', e', hk', hC⟩ := hrow.C
            injection e' with ea eb ec
            subst ea ec
            obtain ⟨ad, rfl, a0, a1, a2, a3, a4, a5, a6, a7, a8, a9⟩ := it_cells hC j hjl
            have hlt := hla hjl
            have hnx : ∀ hj : j + 1 < L.length, Tree.lt L[j].f4.f0 L[j + 1].f4.f0 = true := fun hj => by
              have h := List.pairwise_iff_getElem.1 HS3.out.2.2.1 j (j + 1) (by simpa using hjl) (by simpa using hj) (by omega)
              simpa [pairOf] using h
            have hfd : (L.take (j + 1)).find? (stD a) = ((L.take j).find? (stD a)).or (if stD a L[j] = true then some L[j] else none) := by
              rw [List.take_succ_eq_append_getElem hjl, List.find?_append, List.find?_singleton]
            generalize (L.take j).find? (stD a) = fd at *
            have m6 : Mod wr (wr.alloc (.cells #[.int .u32 L[j].f0.f0, .int .u32 L[j].f0.f1, .int .u64 L[j].f1.f0, .int .u32 L[j].f1.f1, .int .u64 L[j].f2.f0, .int .u32 L[j].f2.f1, .string L[j].f3, .string L[j].f4.f0, .string L[j].f4.f1, .bool L[j].f4.f2] 65)) [] := (Mod.refl wr []).alloc _
            have x6 : IB (wr.alloc (.cells #[.int .u32 L[j].f0.f0, .int .u32 L[j].f0.f1, .int .u64 L[j].f1.f0, .int .u32 L[j].f1.f1, .int .u64 L[j].f2.f0, .int .u32 L[j].f2.f1, .string L[j].f3, .string L[j].f4.f0, .string L[j].f4.f1, .bool L[j].f4.f2] 65)) wr.heap.size L[j] := blk_new wr _
            have hqq : wr.heap.size ≠ qw := by have := blk_lt F5.out.hy; omega
            have H6 := Lib.hid (And.intro (F5.out.mod m6) (And.intro x6 (And.intro (hM.trans m6 (fun _ hk => by cases hk)) (And.intro hnx (And.intro hfd hqq)))))
            clear hla hrow hC hnx hfd m6 x6 hM hqq F5
            generalize hyj : L[j] = y at *
            go_upto_region 17 with fail
            clear a0 a1 a2 a3 a4 a5 a6 a7 a8 a9
            generalize wr.alloc _ = W6 at *
            generalize wr.heap.size = q7 at *
            obtain ⟨x0, x1, x2, x3, x4, x5, x6, x7, x8, x9⟩ := H6.out.2.1.all
            obtain ⟨g0, g1, g2, g3, g4, g5, g6, g7, g8, g9, ga, gb⟩ := Fq.box H6.out.1
            have hle1 : Op.bytesLess y.f4.f0.toList la'.toList = false := lt_as hlt
            have hle2 : (y.f4.f0.toList == la'.toList) = false := by simpa using fun e => lt_ne hlt e.symm
            go_upto_region 21 with fail
            go_cut [14] from 51 to 102 (fun s14 wr => s14 = .bool (inRI a.f6 a.f7 y && !lessB a.f3.f0 a.f3.f1 y.f2.f0 y.f2.f1) ∧ wr = W6)
            case rest =>
              obtain ⟨rfl, rfl⟩ := hcut
              obtain ⟨st, hst⟩ : ∃ st, (inRI a.f6 a.f7 y && !lessB a.f3.f0 a.f3.f1 y.f2.f0 y.f2.f1) = st := ⟨_, rfl⟩
              rw [hst]
              have H8 := Lib.hid hst
              clear hst hle1 hle2
              have hbl63 : a.f8.length ≤ 9223372036854775807 := by have := HB.out.2.2; omega
              go_wp2_with fail
              go_loopg [14, 106] a.f8.length (fun k sv ix wq => ∃ i : Nat, i ≤ a.f8.length ∧ k = a.f8.length - i ∧ ix = .int .i64 i ∧ sv = .bool (st && !hasB (a.f8.take i) y.f0.f0 y.f0.f1) ∧ Mod wc wq [])
              case atStart => exact ⟨0, Nat.zero_le _, rfl, rfl, (by simp [hasB]), Mod.refl _ _⟩
              case round =>
                obtain ⟨i, hi, rfl, rfl, rfl, hM6⟩ := hrel
                have F7 := Lib.hid (H6.out.1.mod hM6)
                have X7 := Lib.hid (H6.out.2.1.mod hM6 (by simp))
                have M7 := Lib.hid hM6
                have M37 := Lib.hid (H6.out.2.2.1.trans hM6 (fun _ hk => by cases hk))
                clear hM6
                by_cases hil : i < a.f8.length
                · have hiz : (i : Int) < (a.f8.length : Int) := by omega
                  have hwi : IntKind.i64.wrap ((i : Int) + 1) = ((i + 1 : Nat) : Int) := i64n (by omega)
                  obtain ⟨ae, rfl, b0, b1⟩ := nm_cells HB.out.2.1 i hil
                  have b0' := F7.out.hM.cellA b0 (by simp)
                  have b1' := F7.out.hM.cellA b1 (by simp)
                  have hhas : hasB (a.f8.take (i + 1)) y.f0.f0 y.f0.f1 = (hasB (a.f8.take i) y.f0.f0 y.f0.f1 || (y.f0.f0 == a.f8[i].f0 && (y.f0.f1 == a.f8[i].f1))) := by
                    unfold hasB
                    rw [List.take_succ_eq_append_getElem hil, List.any_append]
                    simp
                  have HH := Lib.hid hhas
                  clear b0 b1 hhas
                  obtain ⟨x0, x1, x2, x3, x4, x5, x6, x7, x8, x9⟩ := X7.out.all
                  obtain ⟨t0, ht0⟩ : ∃ t0, hasB (a.f8.take i) y.f0.f0 y.f0.f1 = t0 := ⟨_, rfl⟩
                  rw [ht0] at HH ⊢
                  have n8 : NB (wr.alloc (.cells #[.int .u32 a.f8[i].f0, .int .u32 a.f8[i].f1] 32)) wr.heap.size a.f8[i] := blk_new wr _
                  have m8 : Mod wr (wr.alloc (.cells #[.int .u32 a.f8[i].f0, .int .u32 a.f8[i].f1] 32)) [] := (Mod.refl wr []).alloc _
                  have X8 := X7.out.mod m8 (by simp)
                  have M8 := Lib.hid (M7.out.trans m8 (fun _ hk => by cases hk))
                  clear x0 x1 x2 x3 x4 x5 x6 x7 x8 x9 m8
                  generalize a.f8[i] = z at *
                  go_upto_region 25 with fail
                  clear b0' b1'
                  generalize wr.alloc _ = W8 at *
                  generalize wr.heap.size = q8 at *
                  obtain ⟨x0, x1, x2, x3, x4, x5, x6, x7, x8, x9⟩ := X8.all
                  obtain ⟨z0, z1⟩ := n8.all
                  clear X8 n8
                  obtain ⟨s1, hs1⟩ : ∃ s1, (st && !t0) = s1 := ⟨_, rfl⟩
                  have HS1 := Lib.hid hs1
                  rw [hs1]
                  clear hs1
                  cases s1
                  · go_wp2
                    go_roundg (a.f8.length - (i + 1))
                    case measure => omega
                    case rel => exact ⟨i + 1, by omega, rfl, by rw [show ((i + 1 : Nat) : Int) = (i : Int) + 1 by omega], (by rw [HH.out]; exact st_no HS1.out), M8.out⟩
                  · go_wp2
                    go_roundg (a.f8.length - (i + 1))
                    case measure => omega
                    case rel =>
                      refine ⟨i + 1, by omega, rfl, by rw [show ((i + 1 : Nat) : Int) = (i : Int) + 1 by omega], ?_, M8.out⟩
                      rw [HH.out]
                      exact st_yes HS1.out _ _ _ _
                · obtain rfl : i = a.f8.length := by omega
                  have hiz : ¬ ((a.f8.length : Int) < (a.f8.length : Int)) := by omega
                  obtain ⟨x0, x1, x2, x3, x4, x5, x6, x7, x8, x9⟩ := X7.out.all
                  rw [List.take_length]
                  have HD : Hid (stD a y = (st && !hasB a.f8 y.f0.f0 y.f0.f1)) := Lib.hid (by unfold stD; rw [H8.out])
                  obtain ⟨s2, hs2⟩ : ∃ s2, (st && !hasB a.f8 y.f0.f0 y.f0.f1) = s2 := ⟨_, rfl⟩
                  rw [hs2] at HD ⊢
                  clear hs2
                  cases fd with
                  | some y0 =>
                    have hfd := H6.out.2.2.2.2.1
                    rw [Option.some_or] at hfd
                    simp only [Option.isSome_some] at *
                    cases s2
                    all_goals
                      go_wp2
                      go_roundg (L.length - (j + 1))
                      case measure => omega
                      case rel =>
                        exact ⟨j + 1, y.f4.f0, by omega, rfl, by rw [show ((j + 1 : Nat) : Int) = (j : Int) + 1 by omega], rfl, H6.out.2.2.2.1, by rw [hfd]; rfl, by rw [hfd]; exact F7.out, M37.out⟩
                  | none =>
                    have hfd := H6.out.2.2.2.2.1
                    rw [Option.none_or, HD.out] at hfd
                    simp only [Option.isSome_none] at *
                    cases s2
                    · rw [if_neg (by simp)] at hfd
                      go_wp2
                      go_roundg (L.length - (j + 1))
                      case measure => omega
                      case rel =>
                        exact ⟨j + 1, y.f4.f0, by omega, rfl, by rw [show ((j + 1 : Nat) : Int) = (j : Int) + 1 by omega], rfl, H6.out.2.2.2.1, by rw [hfd]; rfl, by rw [hfd]; exact F7.out, M37.out⟩
                    · rw [if_pos rfl] at hfd
                      obtain ⟨w0, w1, w2, w3, w4, w5, w6, w7, w8, w9⟩ := F7.out.hy.all
                      simp only [Option.getD_none, z65, z32, z35, z63] at w0 w1 w2 w3 w4 w5 w6 w7 w8 w9
                      have fz := blk_frozen F7.out.hy
                      have HP := Lib.hid (F7.out.put y)
                      go_wp2
                      have hP := HP.out.1
                      have hM := M37.out.mono (fp' := [qw]) (fun k hk => .inl hk)
                      have hM2 := hM.trans HP.out.2 (fun k hk => .inl hk)
                      unfold putIB at hP hM2
                      go_roundg (L.length - (j + 1))
                      case measure => omega
                      case rel =>
                        exact ⟨j + 1, y.f4.f0, by omega, rfl, by rw [show ((j + 1 : Nat) : Int) = (j : Int) + 1 by omega], rfl, H6.out.2.2.2.1, by rw [hfd]; rfl, by rw [hfd]; exact hP, hM2⟩
            case first =>
              have HSt := Lib.hid (st_eq a y)
              go_wp2
              all_goals
                go_meet
                case rel =>
                  refine ⟨?_, rfl⟩
                  rw [HSt.out]
                  simp [*]
          · obtain rfl : j = L.length := by omega
            have hjz : ¬ ((L.length : Int) < (L.length : Int)) := by omega
            rw [List.take_length] at *
            obtain ⟨g0, g1, g2, g3, g4, g5, g6, g7, g8, g9, ga, gb⟩ := Fq.box F5.out
            obtain ⟨r, hr⟩ : ∃ r, L.find? (stD a) = r := ⟨_, rfl⟩
            have HR := Lib.hid ((firstI_eq a L).trans hr)
            rw [hr] at F5 ⊢
            clear hr hrow hla hM
            go_wp2_with fail
            refine (firstI_calls F5.out.hT (by omega) a.f6 a.f7 a.f3.f0 a.f3.f1 Ab cb a.f8 (Kd.C_below HB.out.2.1 F5.out.hM.bel) HB.out.1 HB.out.2.2 HR.out).mono ?_
            rintro e W9 ⟨rfl, m9⟩
            have F9 := Lib.hid (F5.out.mod m9)
            clear F5 m9 g0 g1 g2 g3 g4 g5 g6 g7 g8 g9 ga gb
            cases r with
            | none =>
              simp only [ofEnd, Option.getD_none, Option.isSome_none] at *
              have x6 : IB (W9.alloc (.cells #[.int .u32 z65.f0.f0, .int .u32 z65.f0.f1, .int .u64 z65.f1.f0, .int .u32 z65.f1.f1, .int .u64 z65.f2.f0, .int .u32 z65.f2.f1, .string z65.f3, .string z65.f4.f0, .string z65.f4.f1, .bool z65.f4.f2] 65)) W9.heap.size z65 := blk_new W9 _
              have m6 : Mod W9 (W9.alloc (.cells #[.int .u32 z65.f0.f0, .int .u32 z65.f0.f1, .int .u64 z65.f1.f0, .int .u32 z65.f1.f1, .int .u64 z65.f2.f0, .int .u32 z65.f2.f1, .string z65.f3, .string z65.f4.f0, .string z65.f4.f1, .bool z65.f4.f2] 65)) [] := (Mod.refl W9 []).alloc _
              have F6 := Lib.hid (F9.out.mod m6)
              clear F9 m6
              simp only [z65, z32, z35, z63] at x6 F6
              go_upto_region 31 with fail
              generalize W9.alloc _ = Wa at *
              generalize W9.heap.size = qa at *
              obtain ⟨x0, x1, x2, x3, x4, x5, x6, x7, x8, x9⟩ := x6.all
              obtain ⟨w0, w1, w2, w3, w4, w5, w6, w7, w8, w9⟩ := F6.out.hy.all
              go_wp2
              go_ret
              exact ⟨rfl, F6.out.hM⟩
            | some y =>
              simp only [ofEnd, Option.getD_some, Option.isSome_some] at *
              have x6 : IB (W9.alloc (.cells #[.int .u32 y.f0.f0, .int .u32 y.f0.f1, .int .u64 y.f1.f0, .int .u32 y.f1.f1, .int .u64 y.f2.f0, .int .u32 y.f2.f1, .string y.f3, .string y.f4.f0, .string y.f4.f1, .bool y.f4.f2] 65)) W9.heap.size y := blk_new W9 _
              have m6 : Mod W9 (W9.alloc (.cells #[.int .u32 y.f0.f0, .int .u32 y.f0.f1, .int .u64 y.f1.f0, .int .u32 y.f1.f1, .int .u64 y.f2.f0, .int .u32 y.f2.f1, .string y.f3, .string y.f4.f0, .string y.f4.f1, .bool y.f4.f2] 65)) [] := (Mod.refl W9 []).alloc _
              have F6 := Lib.hid (F9.out.mod m6)
              clear F9 m6
              go_upto_region 31 with fail
              generalize W9.alloc _ = Wa at *
              generalize W9.heap.size = qa at *
              obtain ⟨x0, x1, x2, x3, x4, x5, x6, x7, x8, x9⟩ := x6.all
              obtain ⟨w0, w1, w2, w3, w4, w5, w6, w7, w8, w9⟩ := F6.out.hy.all
              go_wp2
              go_ret
              exact ⟨rfl, F6.out.hM⟩
      · have h3z : ¬ ((j : Int) = 60) := by omega
        have h3b : ((j : Int) == 60) = false := by simpa using h3z
        have hw : IntKind.i64.wrap ((j : Int) + 1) = ((j + 1 : Nat) : Int) := by rw [i64w (by omega) (by omega)]; omega
        have hok := HR.out.2.2 l[j] (List.getElem_mem _)
        have HX := Lib.hid (And.intro hok (And.intro hcw hkw))
        clear hok hkw hkb hcb hcw
        generalize l[j] = y at *
        obtain ⟨x0, ⟨x1, x2⟩, ⟨x3, x4⟩, ⟨x5, x6⟩, x7, xw, x8, x9, xb⟩ := y
        dsimp only at a0 a1 a2 a3 a4 a5 a6 a7 a8 a9 aa ab HX ⊢
        have mx := (Mod.refl wr []).alloc (.cells #[.int .i64 x0, .int .u32 x1, .int .u32 x2, .int .u64 x3, .int .u32 x4, .int .u64 x5, .int .u32 x6, .string x7, .slice A1 xw.length cw1, .string x8, .string x9, .slice A2 xb.length cb1] 58)
        have bx := blk_new wr (.cells #[.int .i64 x0, .int .u32 x1, .int .u32 x2, .int .u64 x3, .int .u32 x4, .int .u64 x5, .int .u32 x6, .string x7, .slice A1 xw.length cw1, .string x8, .string x9, .slice A2 xb.length cb1] 58)
        have HS := Lib.hid (HN.out.mod mx)
        clear HN mx
        go_upto_region 8 with fail
        clear a0 a1 a2 a3 a4 a5 a6 a7 a8 a9 aa ab
        generalize wr.alloc _ = V at *
        generalize wr.heap.size = q at *
        have c0 : V.cell? ⟨q, 0, none⟩ = some (.int .i64 x0) := (blk_cell bx 0).trans rfl
        have c1 : V.cell? ⟨q, 1, none⟩ = some (.int .u32 x1) := (blk_cell bx 1).trans rfl
        have c2 : V.cell? ⟨q, 2, none⟩ = some (.int .u32 x2) := (blk_cell bx 2).trans rfl
        have c3 : V.cell? ⟨q, 3, none⟩ = some (.int .u64 x3) := (blk_cell bx 3).trans rfl
        have c4 : V.cell? ⟨q, 4, none⟩ = some (.int .u32 x4) := (blk_cell bx 4).trans rfl
        have c5 : V.cell? ⟨q, 5, none⟩ = some (.int .u64 x5) := (blk_cell bx 5).trans rfl
        have c6 : V.cell? ⟨q, 6, none⟩ = some (.int .u32 x6) := (blk_cell bx 6).trans rfl
        have c7 : V.cell? ⟨q, 7, none⟩ = some (.string x7) := (blk_cell bx 7).trans rfl
        have c8 : V.cell? ⟨q, 8, none⟩ = some (.slice A1 xw.length cw1) := (blk_cell bx 8).trans rfl
        clear bx
        have hrel1 : L.length ≤ 16 * (j + 1) := by omega
        by_cases h1 : x0 = 1
        · subst h1
          go_wp2
          go_roundg (l.length - (j + 1))
          case measure => omega
          case rel => exact ⟨j + 1, _, L, by omega, rfl, by rw [show ((j + 1 : Nat) : Int) = (j : Int) + 1 by omega], by omega, hrel1, HA.out, HS.out.mono (by omega)⟩
        · have h1b : (x0 == 1) = false := by simpa using h1
          have hLL := layL_all HA.out x1 x2 ⟨x3, x4⟩ ⟨x5, x6⟩ x7 xw
          have HLL := Lib.hid hLL
          clear hLL
          go_wp2_with fail
          refine (tq_lay2 HS.out (Mod.refl _ _) (by omega) (by omega) x1 x2 HX.out.1.1 ⟨x3, x4⟩ ⟨x5, x6⟩ x7 HX.out.2.2 HX.out.2.1 rfl rfl).mono ?_
          rintro e W5 ⟨rfl, fp5, h5⟩
          have H5 := Lib.hid h5
          clear h5 c0 c1 c2 c3 c4 c5 c6 c7 c8 HS
          go_wp2
          go_roundg (l.length - (j + 1))
          case measure => omega
          case rel => exact ⟨j + 1, _, _, by omega, rfl, by rw [show ((j + 1 : Nat) : Int) = (j : Int) + 1 by omega], by omega, by have := HLL.out.2; omega, HLL.out.1, H5.out⟩
    · obtain rfl : j = l.length := by omega
      have hzz : ¬ ((l.length : Int) < (l.length : Int)) := by omega
      have HE := Lib.hid (HN.out.mono hj3)
      clear HN
      go_upto_region 11 with fail
      generalize wr = Vz at *
      have hz65 : Hid (Fq w (Vz.alloc (.cells #[.int .u32 z65.f0.f0, .int .u32 z65.f0.f1, .int .u64 z65.f1.f0, .int .u32 z65.f1.f1, .int .u64 z65.f2.f0, .int .u32 z65.f2.f1, .string z65.f3, .string z65.f4.f0, .string z65.f4.f1, .bool z65.f4.f2] 65)) t 60 L fp g (.cells #[.int .i64 a.f0, .int .u32 a.f1.f0, .int .u32 a.f1.f1, .int .u64 a.f2.f0, .int .u32 a.f2.f1, .int .u64 a.f3.f0, .int .u32 a.f3.f1, .string a.f4, .slice Aw a.f5.length cw, .string a.f6, .string a.f7, .slice Ab a.f8.length cb] 58) Vz.heap.size z65) := Lib.hid (Fq.made HE.out)
      have F0 := hz65
      simp only [z65, z32, z35, z63] at F0
      clear hz65 HE
      go_upto_region 14 with fail
      generalize Vz.alloc _ = V2 at *
      generalize Vz.heap.size = qw at *
      go_wp2_with fail
      refine (all_calls F0.out.hT (by omega)).mono ?_
      rintro e V3 ⟨A3, k3, rfl, hR, m3⟩
      have hqo : ∀ y ∈ ownList (.slice A3 L.length k3), y ≠ qw := fun y hy e => by have h1 := hR.1 y (own_mem _ y hy); have h2 := blk_lt F0.out.hy; omega
      have HS3 := Lib.hid (And.intro (Row.of hR) (And.intro hqo (And.intro F0.out.hT.sorted HA.out)))
      have F3 := Lib.hid (F0.out.mod m3)
      clear F0 m3 hR hqo HA
      go_wp2_with fail
      go_loopg [9, 10, 50] L.length (fun k fo la ix wr => ∃ (j : Nat) (la' : ByteArray), j ≤ L.length ∧ k = L.length - j ∧ ix = .int .i64 j ∧ la = .string la' ∧ (∀ hj : j < L.length, Tree.lt la' L[j].f4.f0 = true) ∧ fo = .bool ((L.take j).find? (stD a)).isSome ∧ Fq w wr t 60 L fp g (.cells #[.int .i64 a.f0, .int .u32 a.f1.f0, .int .u32 a.f1.f1, .int .u64 a.f2.f0, .int .u32 a.f2.f1, .int .u64 a.f3.f0, .int .u32 a.f3.f1, .string a.f4, .slice Aw a.f5.length cw, .string a.f6, .string a.f7, .slice Ab a.f8.length cb] 58) qw (((L.take j).find? (stD a)).getD z65) ∧ Mod V3 wr [qw])
      case atStart => exact ⟨0, _, Nat.zero_le _, rfl, rfl, rfl, fun hj => key_pos (HS3.out.2.2.2 _ (List.getElem_mem hj)), rfl, F3.out, Mod.refl _ _⟩
      case round =>
        obtain ⟨j, la', hj, rfl, rfl, rfl, hla, rfl, hF, hM⟩ := hrel
        have F5 := Lib.hid hF
        have hrow := HS3.out.1.mod plain65 hM (fun y hy hm => HS3.out.2.1 y hy (by simpa using hm))
        clear hF
        by_cases hjl : j < L.length
        · have hjz : (j : Int) < (L.length : Int) := by omega
          have hw : IntKind.i64.wrap ((j : Int) + 1) = ((j + 1 : Nat) : Int) := by rw [i64w (by omega) (by omega)]; omega
          obtain ⟨A', k', e', hk', hC⟩ := hrow.C
          injection e' with ea eb ec
          subst ea ec
          obtain ⟨ad, rfl, a0, a1, a2, a3, a4, a5, a6, a7, a8, a9⟩ := it_cells hC j hjl
          have hlt := hla hjl
          have hnx : ∀ hj : j + 1 < L.length, Tree.lt L[j].f4.f0 L[j + 1].f4.f0 = true := fun hj => by
            have h := List.pairwise_iff_getElem.1 HS3.out.2.2.1 j (j + 1) (by simpa using hjl) (by simpa using hj) (by omega)
            simpa [pairOf] using h
          have hfd : (L.take (j + 1)).find? (stD a) = ((L.take j).find? (stD a)).or (if stD a L[j] = true then some L[j] else none) := by
            rw [List.take_succ_eq_append_getElem hjl, List.find?_append, List.find?_singleton]
          generalize (L.take j).find? (stD a) = fd at *
          have m6 : Mod wr (wr.alloc (.cells #[.int .u32 L[j].f0.f0, .int .u32 L[j].f0.f1, .int .u64 L[j].f1.f0, .int .u32 L[j].f1.f1, .int .u64 L[j].f2.f0, .int .u32 L[j].f2.f1, .string L[j].f3, .string L[j].f4.f0, .string L[j].f4.f1, .bool L[j].f4.f2] 65)) [] := (Mod.refl wr []).alloc _
          have x6 : IB (wr.alloc (.cells #[.int .u32 L[j].f0.f0, .int .u32 L[j].f0.f1, .int .u64 L[j].f1.f0, .int .u32 L[j].f1.f1, .int .u64 L[j].f2.f0, .int .u32 L[j].f2.f1, .string L[j].f3, .string L[j].f4.f0, .string L[j].f4.f1, .bool L[j].f4.f2] 65)) wr.heap.size L[j] := blk_new wr _
          have hqq : wr.heap.size ≠ qw := by have := blk_lt F5.out.hy; omega
          have H6 := Lib.hid (And.intro (F5.out.mod m6) (And.intro x6 (And.intro (hM.trans m6 (fun _ hk => by cases hk)) (And.intro hnx (And.intro hfd hqq)))))
          clear hla hrow hC hnx hfd m6 x6 hM hqq F5
          generalize hyj : L[j] = y at *
          go_upto_region 17 with fail
          clear a0 a1 a2 a3 a4 a5 a6 a7 a8 a9
          generalize wr.alloc _ = W6 at *
          generalize wr.heap.size = q7 at *
          obtain ⟨x0, x1, x2, x3, x4, x5, x6, x7, x8, x9⟩ := H6.out.2.1.all
          obtain ⟨g0, g1, g2, g3, g4, g5, g6, g7, g8, g9, ga, gb⟩ := Fq.box H6.out.1
          have hle1 : Op.bytesLess y.f4.f0.toList la'.toList = false := lt_as hlt
          have hle2 : (y.f4.f0.toList == la'.toList) = false := by simpa using fun e => lt_ne hlt e.symm
          go_upto_region 21 with fail
          go_cut [14] from 51 to 102 (fun s14 wr => s14 = .bool (inRI a.f6 a.f7 y && !lessB a.f3.f0 a.f3.f1 y.f2.f0 y.f2.f1) ∧ wr = W6)
          case rest =>
            obtain ⟨rfl, rfl⟩ := hcut
            obtain ⟨st, hst⟩ : ∃ st, (inRI a.f6 a.f7 y && !lessB a.f3.f0 a.f3.f1 y.f2.f0 y.f2.f1) = st := ⟨_, rfl⟩
            rw [hst]
            have H8 := Lib.hid hst
            clear hst hle1 hle2
            have hbl63 : a.f8.length ≤ 9223372036854775807 := by have := HB.out.2.2; omega
            go_wp2_with fail
            go_loopg [14, 106] a.f8.length (fun k sv ix wq => ∃ i : Nat, i ≤ a.f8.length ∧ k = a.f8.length - i ∧ ix = .int .i64 i ∧ sv = .bool (st && !hasB (a.f8.take i) y.f0.f0 y.f0.f1) ∧ Mod wc wq [])
            case atStart => exact ⟨0, Nat.zero_le _, rfl, rfl, (by simp [hasB]), Mod.refl _ _⟩
            case round =>
              obtain ⟨i, hi, rfl, rfl, rfl, hM6⟩ := hrel
              have F7 := Lib.hid (H6.out.1.mod hM6)
              have X7 := Lib.hid (H6.out.2.1.mod hM6 (by simp))
              have M7 := Lib.hid hM6
              have M37 := Lib.hid (H6.out.2.2.1.trans hM6 (fun _ hk => by cases hk))
              clear hM6
              by_cases hil : i < a.f8.length
              · have hiz : (i : Int) < (a.f8.length : Int) := by omega
                have hwi : IntKind.i64.wrap ((i : Int) + 1) = ((i + 1 : Nat) : Int) := i64n (by omega)
                obtain ⟨ae, rfl, b0, b1⟩ := nm_cells HB.out.2.1 i hil
                have b0' := F7.out.hM.cellA b0 (by simp)
                have b1' := F7.out.hM.cellA b1 (by simp)
                have hhas : hasB (a.f8.take (i + 1)) y.f0.f0 y.f0.f1 = (hasB (a.f8.take i) y.f0.f0 y.f0.f1 || (y.f0.f0 == a.f8[i].f0 && (y.f0.f1 == a.f8[i].f1))) := by
                  unfold hasB
                  rw [List.take_succ_eq_append_getElem hil, List.any_append]
                  simp
                have HH := Lib.hid hhas
                clear b0 b1 hhas
                obtain ⟨x0, x1, x2, x3, x4, x5, x6, x7, x8, x9⟩ := X7.out.all
                obtain ⟨t0, ht0⟩ : ∃ t0, hasB (a.f8.take i) y.f0.f0 y.f0.f1 = t0 := ⟨_, rfl⟩
                rw [ht0] at HH ⊢
                have n8 : NB (wr.alloc (.cells #[.int .u32 a.f8[i].f0, .int .u32 a.f8[i].f1] 32)) wr.heap.size a.f8[i] := blk_new wr _
                have m8 : Mod wr (wr.alloc (.cells #[.int .u32 a.f8[i].f0, .int .u32 a.f8[i].f1] 32)) [] := (Mod.refl wr []).alloc _
                have X8 := X7.out.mod m8 (by simp)
                have M8 := Lib.hid (M7.out.trans m8 (fun _ hk => by cases hk))
                clear x0 x1 x2 x3 x4 x5 x6 x7 x8 x9 m8
                generalize a.f8[i] = z at *
                go_upto_region 25 with fail
                clear b0' b1'
                generalize wr.alloc _ = W8 at *
                generalize wr.heap.size = q8 at *
                obtain ⟨x0, x1, x2, x3, x4, x5, x6, x7, x8, x9⟩ := X8.all
                obtain ⟨z0, z1⟩ := n8.all
                clear X8 n8
                obtain ⟨s1, hs1⟩ : ∃ s1, (st && !t0) = s1 := ⟨_, rfl⟩
                have HS1 := Lib.hid hs1
                rw [hs1]
                clear hs1
                cases s1
                · go_wp2
                  go_roundg (a.f8.length - (i + 1))
                  case measure => omega
                  case rel => exact ⟨i + 1, by omega, rfl, by rw [show ((i + 1 : Nat) : Int) = (i : Int) + 1 by omega], (by rw [HH.out]; exact st_no HS1.out), M8.out⟩
                · go_wp2
                  go_roundg (a.f8.length - (i + 1))
                  case measure => omega
                  case rel =>
                    refine ⟨i + 1, by omega, rfl, by rw [show ((i + 1 : Nat) : Int) = (i : Int) + 1 by omega], ?_, M8.out⟩
                    rw [HH.out]
                    exact st_yes HS1.out _ _ _ _
              · obtain rfl : i = a.f8.length := by omega
                have hiz : ¬ ((a.f8.length : Int) < (a.f8.length : Int)) := by omega
                obtain ⟨x0, x1, x2, x3, x4, x5, x6, x7, x8, x9⟩ := X7.out.all
                rw [List.take_length]
                have HD : Hid (stD a y = (st && !hasB a.f8 y.f0.f0 y.f0.f1)) := Lib.hid (by unfold stD; rw [H8.out])
                obtain ⟨s2, hs2⟩ : ∃ s2, (st && !hasB a.f8 y.f0.f0 y.f0.f1) = s2 := ⟨_, rfl⟩
                rw [hs2] at HD ⊢
                clear hs2
                cases fd with
                | some y0 =>
                  have hfd := H6.out.2.2.2.2.1
                  rw [Option.some_or] at hfd
                  simp only [Option.isSome_some] at *
                  cases s2
                  all_goals
                    go_wp2
                    go_roundg (L.length - (j + 1))
                    case measure => omega
                    case rel =>
                      exact ⟨j + 1, y.f4.f0, by omega, rfl, by rw [show ((j + 1 : Nat) : Int) = (j : Int) + 1 by omega], rfl, H6.out.2.2.2.1, by rw [hfd]; rfl, by rw [hfd]; exact F7.out, M37.out⟩
                | none =>
                  have hfd := H6.out.2.2.2.2.1
                  rw [Option.none_or, HD.out] at hfd
                  simp only [Option.isSome_none] at *
                  cases s2
                  · rw [if_neg (by simp)] at hfd
                    go_wp2
                    go_roundg (L.length - (j + 1))
                    case measure => omega
                    case rel =>
                      exact ⟨j + 1, y.f4.f0, by omega, rfl, by rw [show ((j + 1 : Nat) : Int) = (j : Int) + 1 by omega], rfl, H6.out.2.2.2.1, by rw [hfd]; rfl, by rw [hfd]; exact F7.out, M37.out⟩
                  · rw [if_pos rfl] at hfd
                    obtain ⟨w0, w1, w2, w3, w4, w5, w6, w7, w8, w9⟩ := F7.out.hy.all
                    simp only [Option.getD_none, z65, z32, z35, z63] at w0 w1 w2 w3 w4 w5 w6 w7 w8 w9
                    have fz := blk_frozen F7.out.hy
                    have HP := Lib.hid (F7.out.put y)
                    go_wp2
                    have hP := HP.out.1
                    have hM := M37.out.mono (fp' := [qw]) (fun k hk => .inl hk)
                    have hM2 := hM.trans HP.out.2 (fun k hk => .inl hk)
                    unfold putIB at hP hM2
                    go_roundg (L.length - (j + 1))
                    case measure => omega
                    case rel =>
                      exact ⟨j + 1, y.f4.f0, by omega, rfl, by rw [show ((j + 1 : Nat) : Int) = (j : Int) + 1 by omega], rfl, H6.out.2.2.2.1, by rw [hfd]; rfl, by rw [hfd]; exact hP, hM2⟩
          case first =>
            have HSt := Lib.hid (st_eq a y)
            go_wp2
            all_goals
              go_meet
              case rel =>
                refine ⟨?_, rfl⟩
                rw [HSt.out]
                simp [*]
        · obtain rfl : j = L.length := by omega
          have hjz : ¬ ((L.length : Int) < (L.length : Int)) := by omega
          rw [List.take_length] at *
          obtain ⟨g0, g1, g2, g3, g4, g5, g6, g7, g8, g9, ga, gb⟩ := Fq.box F5.out
          obtain ⟨r, hr⟩ : ∃ r, L.find? (stD a) = r := ⟨_, rfl⟩
          have HR := Lib.hid ((firstI_eq a L).trans hr)
          rw [hr] at F5 ⊢
          clear hr hrow hla hM
          go_wp2_with fail
          refine (firstI_calls F5.out.hT (by omega) a.f6 a.f7 a.f3.f0 a.f3.f1 Ab cb a.f8 (Kd.C_below HB.out.2.1 F5.out.hM.bel) HB.out.1 HB.out.2.2 HR.out).mono ?_
          rintro e W9 ⟨rfl, m9⟩
          have F9 := Lib.hid (F5.out.mod m9)
          clear F5 m9 g0 g1 g2 g3 g4 g5 g6 g7 g8 g9 ga gb
          cases r with
          | none =>
            simp only [ofEnd, Option.getD_none, Option.isSome_none] at *
            have x6 : IB (W9.alloc (.cells #[.int .u32 z65.f0.f0, .int .u32 z65.f0.f1, .int .u64 z65.f1.f0, .int .u32 z65.f1.f1, .int .u64 z65.f2.f0, .int .u32 z65.f2.f1, .string z65.f3, .string z65.f4.f0, .string z65.f4.f1, .bool z65.f4.f2] 65)) W9.heap.size z65 := blk_new W9 _
            have m6 : Mod W9 (W9.alloc (.cells #[.int .u32 z65.f0.f0, .int .u32 z65.f0.f1, .int .u64 z65.f1.f0, .int .u32 z65.f1.f1, .int .u64 z65.f2.f0, .int .u32 z65.f2.f1, .string z65.f3, .string z65.f4.f0, .string z65.f4.f1, .bool z65.f4.f2] 65)) [] := (Mod.refl W9 []).alloc _
            have F6 := Lib.hid (F9.out.mod m6)
            clear F9 m6
            simp only [z65, z32, z35, z63] at x6 F6
            go_upto_region 31 with fail
            generalize W9.alloc _ = Wa at *
            generalize W9.heap.size = qa at *
            obtain ⟨x0, x1, x2, x3, x4, x5, x6, x7, x8, x9⟩ := x6.all
            obtain ⟨w0, w1, w2, w3, w4, w5, w6, w7, w8, w9⟩ := F6.out.hy.all
            go_wp2
            go_ret
            exact ⟨rfl, F6.out.hM⟩
          | some y =>
            simp only [ofEnd, Option.getD_some, Option.isSome_some] at *
            have x6 : IB (W9.alloc (.cells #[.int .u32 y.f0.f0, .int .u32 y.f0.f1, .int .u64 y.f1.f0, .int .u32 y.f1.f1, .int .u64 y.f2.f0, .int .u32 y.f2.f1, .string y.f3, .string y.f4.f0, .string y.f4.f1, .bool y.f4.f2] 65)) W9.heap.size y := blk_new W9 _
            have m6 : Mod W9 (W9.alloc (.cells #[.int .u32 y.f0.f0, .int .u32 y.f0.f1, .int .u64 y.f1.f0, .int .u32 y.f1.f1, .int .u64 y.f2.f0, .int .u32 y.f2.f1, .string y.f3, .string y.f4.f0, .string y.f4.f1, .bool y.f4.f2] 65)) [] := (Mod.refl W9 []).alloc _
            have F6 := Lib.hid (F9.out.mod m6)
            clear F9 m6
            go_upto_region 31 with fail
            generalize W9.alloc _ = Wa at *
            generalize W9.heap.size = qa at *
            obtain ⟨x0, x1, x2, x3, x4, x5, x6, x7, x8, x9⟩ := x6.all
            obtain ⟨w0, w1, w2, w3, w4, w5, w6, w7, w8, w9⟩ := F6.out.hy.all
            go_wp2
            go_ret
            exact ⟨rfl, F6.out.hM⟩
end Go.Proofs.Ytdelbidaclddgaa.Lat
