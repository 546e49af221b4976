/- The layer 'latch': LatU; a seat's own text, no law of its own. -/
import Derived.Test.YtdelbidaclddgaaLatQ
import Derived.Deep.LoopGhost
import Derived.Deep.Cut
import Derived.Deep.CutRange
import Derived.Deep.CutBlock
import Derived.Lib.Hide
import Derived.StillTailTactics
import Derived.Deep.QuietTactic
import Derived.BigQuiet
import Derived.Outline
import Derived.Deep.RegionWith
import Derived.Deep.RegionHeld3
import Derived.WalkLawsBesides
namespace Go.Proofs.Ytdelbidaclddgaa.Lat
open Go.RowKit Go.Proofs.YtdelbidaclddgaaW.PrintWords Go.Proofs.Ytdelbidaclddgaa.MLatchRuns Go.Proofs.YtdelbidaclddgaaW.PrintLast
set_option linter.unusedVariables false
set_option linter.unusedSimpArgs false
/-! LatchWhole -/
attribute [local go_sem high] eqA32 eqA35 eqA63 eqA65
structure Tn (w V : World) (t m : Nat) (L : List S65) (fp : List Nat) : Prop where
  hT : Tab V t m L fp
  gf : ∀ y ∈ fp, w.heap.size ≤ y
  hM : Mod w V []
theorem Tn.mod {w V V' : World} {t m : Nat} {L : List S65} {fp : List Nat} (h : Tn w V t m L fp) (mm : Mod V V' []) : Tn w V' t m L fp := ⟨h.hT.mod0 mm, h.gf, h.hM.trans mm (fun _ hk => by cases hk)⟩
theorem Tn.box {w V : World} {t m : Nat} {L : List S65} {fp : List Nat} (h : Tn w V t m L fp) (o : Obj) : Tq w (V.alloc o) t m L fp V.heap.size o := by
  have m1 : Mod V (V.alloc o) [] := (Mod.refl V []).alloc _
  exact ⟨h.hT.mod0 m1, h.gf, h.hM.trans m1 (fun _ hk => by cases hk), blk_new V _, fun hm => by have := h.hT.lt _ hm; omega⟩
theorem Tq.tn {w V : World} {t m : Nat} {L : List S65} {fp : List Nat} {q : Nat} {o : Obj} (h : Tq w V t m L fp q o) : Tn w V t m L fp := ⟨h.hT, h.gf, h.hM⟩
section
variable {w V W' : World} {t m : Nat} {L : List S65} {fp : List Nat} {q : Nat} {o : Obj}
theorem tq_alln (h : Tq w V t m L fp q o) (mm : Mod V W' []) (hLl : L.length ≤ 1000000) {N : Nat} (hN : L.length = N) :
    Calls Try.prog 27 #[.pointer (some ⟨t, 0, none⟩)] W' fun e W'' => ∃ A k, e = .returned (.slice A N k) ∧ Tq w W'' t m L fp q o ∧ Mod W' W'' [] := by
  subst hN
  exact (tq_all h mm hLl).mono fun e W'' ⟨A, k, h1, _, h2, h3⟩ => ⟨A, k, h1, h2, h3⟩
theorem tq_byn (h : Tq w V t m L fp q o) (mm : Mod V W' []) (hLl : L.length ≤ 1000000) (c n : Int) (hk : inK c n) {N : Nat} (hN : (byL L c n).length = N) :
    Calls Try.prog 29 #[.pointer (some ⟨t, 0, none⟩), .agg #[.int .u32 c, .int .u32 n]] W' fun e W'' => ∃ A k, e = .returned (.slice A N k) ∧ Tq w W'' t m L fp q o ∧ Mod W' W'' [] := by
  subst hN
  exact (tq_by h mm hLl c n hk rfl).mono fun e W'' ⟨A, k, h1, _, h2, h3⟩ => ⟨A, k, h1, h2, h3⟩
theorem tq_cutn (h : Tq w V t m L fp q o) (mm : Mod V W' []) (hLl : L.length ≤ 1000000) (c n : Int) (hk : inK c n) {N : Nat} (hN : (byL L c n).length = N) {L' : List S65} (hL' : offL L c n = L') :
    Calls Try.prog 30 #[.pointer (some ⟨t, 0, none⟩), .agg #[.int .u32 c, .int .u32 n]] W' fun e W'' => ∃ A k, e = .returned (.slice A N k) ∧ ∃ fp', Tq w W'' t m L' fp' q o := by
  subst hN
  exact (tq_cut h mm hLl c n hk rfl hL').mono fun e W'' ⟨A, k, h1, _, h2⟩ => ⟨A, k, h1, h2⟩
theorem tq_lay2 (h : Tq w V t m L fp q o) (mm : Mod V W' []) (hmx : m ≤ 1000000) (hLl : L.length ≤ 1000000) (c n : Int) (hk : inK c n) (st mn : S35) (pr : ByteArray) {A : Option Addr} {cap : Nat} {l : List S63} (hr : Kd.C k63 w A l.length l) (hc : l.length ≤ cap) {r : Int} {L' : List S65} (e1 : layB L c n st mn pr l = r) (e2 : layL L c n st mn pr l = L') :
    Calls Try.prog 26 #[.pointer (some ⟨t, 0, none⟩), .agg #[.int .u32 c, .int .u32 n], .agg #[.int .u64 st.f0, .int .u32 st.f1], .agg #[.int .u64 mn.f0, .int .u32 mn.f1], .string pr, .slice A l.length cap] W' fun e W'' => e = .returned (.int .i64 r) ∧ ∃ fp', Tq w W'' t (m + 1) L' fp' q o := by
  by_cases hl : l.length ≤ 1000000
  · exact tq_lay h mm hmx hLl c n hk st mn pr hr hc hl e1 e2
  have h' := h.mod mm
  have h1 : rightW l = false := by unfold rightW; rw [decide_eq_false (show ¬ l.length ≤ 16 by omega), Bool.and_false]; rfl
  subst e1 e2
  unfold layL
  rw [show layB L c n st mn pr l = 1 by unfold layB; rw [h1]; rfl, if_neg (by omega)]
  refine (lay_bad1 h'.hT c n st mn pr A cap l (Kd.C_below hr h'.hM.bel) hc h1).mono ?_
  rintro e W'' ⟨rfl, ⟨fp', hT, hs⟩, m2⟩
  exact ⟨rfl, fp', h'.step hT hs m2⟩
end
theorem lay_len (L : List S65) (c n : Int) (st mn : S35) (pr : ByteArray) (l : List S63) : (layB L c n st mn pr l = 0 → (layL L c n st mn pr l).length = L.length + l.length ∧ (byL (layL L c n st mn pr l) c n).length = (byL L c n).length + l.length ∧ l.length ≤ 16) ∧ (layB L c n st mn pr l ≠ 0 → layL L c n st mn pr l = L) := by
  refine ⟨fun e => ?_, fun e => by unfold layL; rw [if_neg e]⟩
  have h16 : l.length ≤ 16 := by
    unfold layB at e
    split at e
    · cases e
    · rename_i hr
      have h := Bool.of_not_eq_false hr
      unfold rightW at h
      simp only [Bool.and_eq_true, decide_eq_true_eq] at h
      exact h.1.1.1.1.1.2
  unfold layL
  rw [if_pos e]
  have hp := putJ_perm c n st mn pr l L
  refine ⟨by rw [hp.length_eq, List.length_append, List.length_map], ?_, h16⟩
  unfold byL
  rw [(hp.filter (isBy c n)).length_eq, List.filter_append, List.length_append]
  congr 1
  rw [List.filter_eq_self.2 (fun x hx => ?_), List.length_map]
  obtain ⟨w, _, rfl⟩ := List.mem_map.1 hx
  exact decide_eq_true ⟨rfl, rfl⟩
theorem layB_cases (L : List S65) (c n : Int) (st mn : S35) (pr : ByteArray) (l : List S63) : layB L c n st mn pr l = 0 ∨ layB L c n st mn pr l = 1 ∨ layB L c n st mn pr l = 40 := by
  unfold layB
  split
  · exact .inr (.inl rfl)
  · split
    · exact .inr (.inr rfl)
    · exact .inl rfl
theorem off_len (L : List S65) (c n : Int) : (offL L c n).length = L.length - (byL L c n).length ∧ (byL L c n).length ≤ L.length ∧ (byL (offL L c n) c n).length = 0 := by
  have h1 : (byL L c n).length + (offL L c n).length = L.length := by
    unfold byL offL
    rw [← List.countP_eq_length_filter, ← List.countP_eq_length_filter]
    have := List.length_eq_countP_add_countP (isBy c n) (l := L)
    simp only [Bool.not_eq_true, Bool.decide_eq_false] at this
    omega
  refine ⟨by omega, by omega, ?_⟩
  have : byL (offL L c n) c n = [] := by
    unfold byL offL
    rw [List.filter_filter, List.filter_eq_nil_iff]
    intro x _ h
    simp at h
  rw [this]
  rfl
theorem tq_two {w V W' : World} {t m : Nat} {L : List S65} {fp : List Nat} {q : Nat} {a1 a2 a3 a4 a5 a6 a7 a8 a9 aa : Value} {c n : Int} (h : Tq w V t m L fp q (.cells #[a1, .int .u32 c, .int .u32 n, a2, a3, a4, a5, a6, a7, a8, a9, aa] 58)) (mm : Mod V W' []) : W'.cell? ⟨q, 1, none⟩ = some (.int .u32 c) ∧ W'.cell? ⟨q, 2, none⟩ = some (.int .u32 n) :=
  ⟨(blk_cell (h.mod mm).hx 1).trans rfl, (blk_cell (h.mod mm).hx 2).trans rfl⟩
theorem tq_12 {w V W' : World} {t m : Nat} {L : List S65} {fp : List Nat} {q : Nat} {a0 a1 a2 a3 a4 a5 a6 a7 a8 a9 aa ab : Value} (h : Tq w V t m L fp q (.cells #[a0, a1, a2, a3, a4, a5, a6, a7, a8, a9, aa, ab] 58)) (mm : Mod V W' []) : W'.cell? ⟨q, 0, none⟩ = some a0 ∧ W'.cell? ⟨q, 1, none⟩ = some a1 ∧ W'.cell? ⟨q, 2, none⟩ = some a2 ∧ W'.cell? ⟨q, 3, none⟩ = some a3 ∧ W'.cell? ⟨q, 4, none⟩ = some a4 ∧ W'.cell? ⟨q, 5, none⟩ = some a5 ∧ W'.cell? ⟨q, 6, none⟩ = some a6 ∧ W'.cell? ⟨q, 7, none⟩ = some a7 ∧ W'.cell? ⟨q, 8, none⟩ = some a8 ∧ W'.cell? ⟨q, 9, none⟩ = some a9 ∧ W'.cell? ⟨q, 10, none⟩ = some aa ∧ W'.cell? ⟨q, 11, none⟩ = some ab :=
  ⟨(blk_cell (h.mod mm).hx 0).trans rfl, (blk_cell (h.mod mm).hx 1).trans rfl, (blk_cell (h.mod mm).hx 2).trans rfl, (blk_cell (h.mod mm).hx 3).trans rfl, (blk_cell (h.mod mm).hx 4).trans rfl, (blk_cell (h.mod mm).hx 5).trans rfl, (blk_cell (h.mod mm).hx 6).trans rfl, (blk_cell (h.mod mm).hx 7).trans rfl, (blk_cell (h.mod mm).hx 8).trans rfl, (blk_cell (h.mod mm).hx 9).trans rfl, (blk_cell (h.mod mm).hx 10).trans rfl, (blk_cell (h.mod mm).hx 11).trans rfl⟩
/-! LatchHolds -/
/-- the table, and blocks beside it -/
structure Th (w V : World) (t m : Nat) (L : List S65) (fp : List Nat) (B : List (Nat × Obj)) : Prop where
  hT : Tab V t m L fp
  gf : ∀ y ∈ fp, w.heap.size ≤ y
  hM : Mod w V []
  hx : ∀ p ∈ B, V.heap[p.1]? = some p.2 ∧ p.1 ∉ fp
theorem Th.mod {w V V' : World} {t m : Nat} {L : List S65} {fp : List Nat} {B : List (Nat × Obj)} (h : Th w V t m L fp B) (mm : Mod V V' []) : Th w V' t m L fp B :=
  ⟨h.hT.mod0 mm, h.gf, h.hM.trans mm (fun _ hk => by cases hk), fun p hp => ⟨mm.at_ (h.hx p hp).1 (by simp), (h.hx p hp).2⟩⟩
theorem Th.mono {w V : World} {t m m' : Nat} {L : List S65} {fp : List Nat} {B : List (Nat × Obj)} (h : Th w V t m L fp B) (hm : m ≤ m') : Th w V t m' L fp B := ⟨h.hT.mono hm, h.gf, h.hM, h.hx⟩
theorem Th.less {w V : World} {t m : Nat} {L : List S65} {fp : List Nat} {B B' : List (Nat × Obj)} (h : Th w V t m L fp B) (hs : ∀ p ∈ B', p ∈ B) : Th w V t m L fp B' := ⟨h.hT, h.gf, h.hM, fun p hp => h.hx p (hs p hp)⟩
theorem Th.box {w V : World} {t m : Nat} {L : List S65} {fp : List Nat} {B : List (Nat × Obj)} (h : Th w V t m L fp B) (o : Obj) : Th w (V.alloc o) t m L fp ((V.heap.size, o) :: B) := by
  have m1 : Mod V (V.alloc o) [] := (Mod.refl V []).alloc _
  refine ⟨h.hT.mod0 m1, h.gf, h.hM.trans m1 (fun _ hk => by cases hk), fun p hp => ?_⟩
  rcases List.mem_cons.1 hp with rfl | hp
  · exact ⟨blk_new V _, fun hm => by have := h.hT.lt _ hm; simp at this⟩
  · exact ⟨m1.at_ (h.hx p hp).1 (by simp), (h.hx p hp).2⟩
theorem Th.step {w V V' : World} {t m m' : Nat} {L L' : List S65} {fp fp' : List Nat} {B : List (Nat × Obj)} (h : Th w V t m L fp B) (hT : Tab V' t m' L' fp') (hs : ∀ y ∈ fp', y ∈ fp ∨ V.heap.size ≤ y) (mm : Mod V V' fp) : Th w V' t m' L' fp' B := by
  have h1 := h.hM.size
  refine ⟨hT, fun y hy => ?_, h.hM.trans mm (fun k hk => .inr (h.gf k hk)), fun p hp => ⟨mm.at_ (h.hx p hp).1 (h.hx p hp).2, fun hm => ?_⟩⟩
  · rcases hs y hy with e | e
    · exact h.gf y e
    · omega
  · have h2 := blk_lt (h.hx p hp).1
    rcases hs p.1 hm with e | e
    · exact (h.hx p hp).2 e
    · omega
theorem Th.at_ {w V : World} {t m : Nat} {L : List S65} {fp : List Nat} {B : List (Nat × Obj)} (h : Th w V t m L fp B) {q : Nat} {o : Obj} (hq : (q, o) ∈ B) {W : World} (mm : Mod V W []) : W.heap[q]? = some o := (h.mod mm).hx (q, o) hq |>.1
section
variable {w V W' : World} {t m : Nat} {L : List S65} {fp : List Nat} {B : List (Nat × Obj)}
theorem th_lay (h : Th w V t m L fp B) (mm : Mod V W' []) (hmx : m ≤ 1000000) (hLl : L.length ≤ 1000000) (c n : Int) (hk : inK c n) (st mn : S35) (pr : ByteArray) {A : Option Addr} {cap : Nat} {l : List S63} (hr : Kd.C k63 w A l.length l) (hc : l.length ≤ cap) (hl : l.length ≤ 1000000) {r : Int} {L' : List S65} (e1 : layB L c n st mn pr l = r) (e2 : layL L c n st mn pr l = L') :
    Calls Try.prog 26 #[.pointer (some ⟨t, 0, none⟩), .agg #[.int .u32 c, .int .u32 n], .agg #[.int .u64 st.f0, .int .u32 st.f1], .agg #[.int .u64 mn.f0, .int .u32 mn.f1], .string pr, .slice A l.length cap] W' fun e W'' => e = .returned (.int .i64 r) ∧ ∃ fp', Th w W'' t (m + 1) L' fp' B := by
  have h' := h.mod mm
  refine (layI_calls h'.hT c n st mn pr A cap l (Kd.C_below hr h'.hM.bel) hc hk hl (fun h0 ad e hm => by have := C63_in hr h0 ad e; have := h.gf _ hm; omega) hmx hLl e1 e2).mono ?_
  rintro e W'' ⟨rfl, ⟨fp', hT, hs⟩, m2⟩
  exact ⟨rfl, fp', h'.step hT hs m2⟩
theorem th_cut (h : Th w V t m L fp B) (mm : Mod V W' []) (hLl : L.length ≤ 1000000) (c n : Int) (hk : inK c n) {ys L' : List S65} (hys : byL L c n = ys) (hL' : offL L c n = L') :
    Calls Try.prog 30 #[.pointer (some ⟨t, 0, none⟩), .agg #[.int .u32 c, .int .u32 n]] W' fun e W'' => ∃ A k, e = .returned (.slice A ys.length k) ∧ (ys.length ≤ k ∧ Kd.C k65 W'' A ys.length ys) ∧ ∃ fp', Th w W'' t m L' fp' B := by
  have h' := h.mod mm
  refine (cutI_calls h'.hT hLl c n hk hys hL').mono ?_
  rintro e W'' ⟨A, k, rfl, hR, hn, ⟨fp', hT, hs⟩, m2⟩
  obtain ⟨A1, k1, e1, g1, g2⟩ := hR.C
  injection e1 with ea eb ec
  subst ea ec
  exact ⟨A, k, rfl, ⟨g1, g2⟩, fp', h'.step hT (fun y hy => .inl (hs y hy)) m2⟩
theorem th_raise (h : Th w V t m L fp B) (mm : Mod V W' []) (c n : Int) (hk : inK c n) (s : S35) {r : Bool} {L' : List S65} (hr : (decide (byL L c n ≠ []) && rightB s.f0 s.f1) = r) (hL : (if r = true then raiseL L c n s else L) = L') :
    Calls Try.prog 32 #[.pointer (some ⟨t, 0, none⟩), .agg #[.int .u32 c, .int .u32 n], .agg #[.int .u64 s.f0, .int .u32 s.f1]] W' fun e W'' => e = .returned (.bool r) ∧ ∃ fp', Th w W'' t m L' fp' B := by
  have h' := h.mod mm
  refine (raise_calls h'.hT c n hk s hr hL).mono ?_
  rintro e W'' ⟨rfl, hT, m2⟩
  exact ⟨rfl, fp, h'.step hT (fun y hy => .inl hy) m2⟩
theorem th_all (h : Th w V t m L fp B) (mm : Mod V W' []) (hLl : L.length ≤ 1000000) :
    Calls Try.prog 27 #[.pointer (some ⟨t, 0, none⟩)] W' fun e W'' => ∃ A k, e = .returned (.slice A L.length k) ∧ (L.length ≤ k ∧ Kd.C k65 W'' A L.length L) ∧ Th w W'' t m L fp B ∧ Mod W' W'' [] := by
  have h' := h.mod mm
  refine (all_calls h'.hT hLl).mono ?_
  rintro e W'' ⟨A, k, rfl, hR, m2⟩
  obtain ⟨A1, k1, e1, g1, g2⟩ := (Row.of hR).C
  injection e1 with ea eb ec
  subst ea ec
  exact ⟨A, k, rfl, ⟨g1, g2⟩, h'.mod m2, m2⟩
theorem th_by (h : Th w V t m L fp B) (mm : Mod V W' []) (hLl : L.length ≤ 1000000) (c n : Int) (hk : inK c n) {ys : List S65} (hys : byL L c n = ys) :
    Calls Try.prog 29 #[.pointer (some ⟨t, 0, none⟩), .agg #[.int .u32 c, .int .u32 n]] W' fun e W'' => ∃ A k, e = .returned (.slice A ys.length k) ∧ (ys.length ≤ k ∧ Kd.C k65 W'' A ys.length ys) ∧ Th w W'' t m L fp B ∧ Mod W' W'' [] := by
  have h' := h.mod mm
  subst hys
  refine (by_calls h'.hT hLl c n hk).mono ?_
  rintro e W'' ⟨A, k, rfl, hR, m2⟩
  obtain ⟨A1, k1, e1, g1, g2⟩ := (Row.of hR).C
  injection e1 with ea eb ec
  subst ea ec
  exact ⟨A, k, rfl, ⟨g1, g2⟩, h'.mod m2, m2⟩
theorem th_of (h : Th w V t m L fp B) (mm : Mod V W' []) (key : ByteArray) {r : Option S65} (hr : findI key L = r) :
    Calls Try.prog 33 #[.pointer (some ⟨t, 0, none⟩), .string key] W' fun e W'' => e = ofEnd r ∧ Th w W'' t m L fp B ∧ Mod W' W'' [] := by
  have h' := h.mod mm
  subst hr
  refine (of_calls h'.hT key).mono ?_
  rintro e W'' ⟨he, m2⟩
  exact ⟨he, h'.mod m2, m2⟩
theorem th_first (h : Th w V t m L fp B) (mm : Mod V W' []) (hLl : L.length ≤ 1000000) (lo hi : ByteArray) (t0 t1 : Int) {A : Option Addr} {k : Nat} {but : List S32} (hr : Kd.C k32 w A but.length but) (hc : but.length ≤ k) (hbl : but.length ≤ 4611686018427387904) {res : Option S65} (hf : firstI lo hi t0 t1 but L = res) :
    Calls Try.prog 28 #[.pointer (some ⟨t, 0, none⟩), .string lo, .string hi, .agg #[.int .u64 t0, .int .u32 t1], .slice A but.length k] W' fun e W'' => e = ofEnd res ∧ Th w W'' t m L fp B ∧ Mod W' W'' [] := by
  have h' := h.mod mm
  refine (firstI_calls h'.hT hLl lo hi t0 t1 A k but (Kd.C_below hr h'.hM.bel) hc hbl hf).mono ?_
  rintro e W'' ⟨he, m2⟩
  exact ⟨he, h'.mod m2, m2⟩
theorem th_lay2 (h : Th w V t m L fp B) (mm : Mod V W' []) (hmx : m ≤ 1000000) (hLl : L.length ≤ 1000000) (c n : Int) (hk : inK c n) (st mn : S35) (pr : ByteArray) {A : Option Addr} {cap : Nat} {l : List S63} (hr : Kd.C k63 w A l.length l) (hc : l.length ≤ cap) {r : Int} {L' : List S65} (e1 : layB L c n st mn pr l = r) (e2 : layL L c n st mn pr l = L') :
    Calls Try.prog 26 #[.pointer (some ⟨t, 0, none⟩), .agg #[.int .u32 c, .int .u32 n], .agg #[.int .u64 st.f0, .int .u32 st.f1], .agg #[.int .u64 mn.f0, .int .u32 mn.f1], .string pr, .slice A l.length cap] W' fun e W'' => e = .returned (.int .i64 r) ∧ ∃ fp', Th w W'' t (m + 1) L' fp' B := by
  by_cases hl : l.length ≤ 1000000
  · exact th_lay h mm hmx hLl c n hk st mn pr hr hc hl e1 e2
  have h' := h.mod mm
  have h1 : rightW l = false := by unfold rightW; rw [decide_eq_false (show ¬ l.length ≤ 16 by omega), Bool.and_false]; rfl
  subst e1 e2
  unfold layL
  rw [show layB L c n st mn pr l = 1 by unfold layB; rw [h1]; rfl, if_neg (by omega)]
  refine (lay_bad1 h'.hT c n st mn pr A cap l (Kd.C_below hr h'.hM.bel) hc h1).mono ?_
  rintro e W'' ⟨rfl, ⟨fp', hT, hs⟩, m2⟩
  exact ⟨rfl, fp', h'.step hT hs m2⟩
end
def ownB : ByteArray := ⟨#[111, 119, 110]⟩
def meI (mn : S35) (w : S63) : S65 := mkI 77 7 ⟨1, 0⟩ mn ownB w
def Inv (ws : List S63) (mn : S35) (L : List S65) : Prop := (byL L 77 7).Perm (ws.map (meI mn))
theorem by_lay {L : List S65} {c n : Int} (h : ¬ (c = 77 ∧ n = 7)) (st mn : S35) (pr : ByteArray) (l : List S63) : (byL (layL L c n st mn pr l) 77 7).Perm (byL L 77 7) := by
  unfold layL
  split
  · have hp := (putJ_perm c n st mn pr l L).filter (isBy 77 7)
    unfold byL
    refine hp.trans ?_
    have e : (l.map (mkI c n st mn pr)).filter (isBy 77 7) = [] := by
      rw [List.filter_eq_nil_iff]
      intro x hx
      obtain ⟨w, _, rfl⟩ := List.mem_map.1 hx
      intro e
      exact h (of_decide_eq_true e)
    rw [List.filter_append, e, List.append_nil]
  · exact List.Perm.refl _
theorem by_off {L : List S65} {c n : Int} (h : ¬ (c = 77 ∧ n = 7)) : byL (offL L c n) 77 7 = byL L 77 7 := by
  unfold byL offL
  rw [List.filter_filter]
  refine List.filter_congr fun x _ => ?_
  by_cases e : isBy 77 7 x = true
  · rw [e]
    have e' : x.f0.f0 = 77 ∧ x.f0.f1 = 7 := of_decide_eq_true e
    have : isBy c n x = false := decide_eq_false (fun e2 => h ⟨by omega, by omega⟩)
    rw [this]
    rfl
  · simp [e]
theorem by_raise {L : List S65} {c n : Int} (h : ¬ (c = 77 ∧ n = 7)) (s : S35) : byL (raiseL L c n s) 77 7 = byL L 77 7 := by
  unfold byL raiseL
  rw [List.filter_map]
  have e1 : L.filter (isBy 77 7 ∘ raise1 c n s) = L.filter (isBy 77 7) := List.filter_congr fun x _ => by
    show isBy 77 7 (raise1 c n s x) = isBy 77 7 x
    unfold isBy
    rw [(raise1_f0 c n s x).1]
  rw [e1]
  conv => rhs; rw [← List.map_id (List.filter (isBy 77 7) L)]
  refine List.map_congr_left fun x hx => ?_
  have e' : x.f0.f0 = 77 ∧ x.f0.f1 = 7 := of_decide_eq_true (List.mem_filter.1 hx).2
  unfold raise1
  rw [if_neg (fun e2 => by have e3 : x.f0.f0 = c ∧ x.f0.f1 = n := of_decide_eq_true e2; exact h ⟨by omega, by omega⟩)]
  rfl
theorem inv_raise {ws : List S63} {mn : S35} {L : List S65} (h : Inv ws mn L) (s : S35) : Inv ws (mx2 mn s) (raiseL L 77 7 s) := by
  unfold Inv byL raiseL at *
  rw [List.filter_map]
  have e1 : L.filter (isBy 77 7 ∘ raise1 77 7 s) = L.filter (isBy 77 7) := List.filter_congr fun x _ => by
    show isBy 77 7 (raise1 77 7 s x) = isBy 77 7 x
    unfold isBy
    rw [(raise1_f0 77 7 s x).1]
  rw [e1]
  refine (h.map _).trans ?_
  rw [List.map_map]
  refine List.Perm.of_eq (List.map_congr_left fun w _ => ?_)
  show raise1 77 7 s (meI mn w) = meI (mx2 mn s) w
  unfold raise1 meI mkI
  exact if_pos (decide_eq_true ⟨rfl, rfl⟩)
theorem inv_find {ws : List S63} {mn : S35} {L : List S65} (hs : Sorted (L.map pairOf)) (h : Inv ws mn L) {w : S63} (hw : w ∈ ws) : findI w.f0 L = some (meI mn w) := by
  have h1 : meI mn w ∈ byL L 77 7 := h.mem_iff.2 (List.mem_map_of_mem hw)
  exact find_at hs (List.mem_filter.1 h1).1
theorem inv_gone {ws : List S63} {mn : S35} {L : List S65} (hs : Sorted (L.map pairOf)) (h : Inv ws mn L) {w : S63} (hw : w ∈ ws) : findI w.f0 (offL L 77 7) = none := by
  cases hf : findI w.f0 (offL L 77 7) with
  | none => rfl
  | some y =>
    obtain ⟨hy, hk⟩ := findI_some hf
    obtain ⟨h1, h2⟩ := List.mem_filter.1 hy
    have e := inv_find hs h hw
    rw [← hk, find_at hs h1] at e
    injection e with e
    subst e
    simp [isBy, meI, mkI] at h2
theorem inv_start {ws : List S63} (hr : rightW ws = true) : layB [] 77 7 ⟨1, 0⟩ ⟨2, 0⟩ ownB ws = 0 ∧ Inv ws ⟨2, 0⟩ (layL [] 77 7 ⟨1, 0⟩ ⟨2, 0⟩ ownB ws) := by
  have h0 : layB [] 77 7 ⟨1, 0⟩ ⟨2, 0⟩ ownB ws = 0 := by
    unfold layB
    rw [hr]
    have hb : anyBusy [] ws = false := by
      unfold anyBusy
      rw [List.any_eq_false]
      intro x _
      simp [busyB, findI]
    rw [hb]
    rfl
  refine ⟨h0, ?_⟩
  unfold Inv layL byL
  rw [if_pos h0]
  refine ((putJ_perm 77 7 ⟨1, 0⟩ ⟨2, 0⟩ ownB ws []).filter _).trans ?_
  rw [List.nil_append, List.filter_eq_self.2 (fun x hx => ?_)]
  · exact List.Perm.refl _
  · obtain ⟨w, _, rfl⟩ := List.mem_map.1 hx
    rfl
theorem start_bad {ws : List S63} (hr : rightW ws = false) : layB [] 77 7 ⟨1, 0⟩ ⟨2, 0⟩ ownB ws = 1 := by
  unfold layB
  rw [hr]
  rfl
def leT (a b : S35) : Prop := a.f0 < b.f0 ∨ a.f0 = b.f0 ∧ a.f1 ≤ b.f1
theorem leT_mx (a s : S35) (h : leT ⟨2, 0⟩ a) : leT a (mx2 a s) ∧ leT ⟨2, 0⟩ (mx2 a s) := by
  unfold leT at h
  simp only at h
  have h0 : lessB 0 0 a.f0 a.f1 = true := decide_eq_true (by omega)
  by_cases h1 : lessB a.f0 a.f1 s.f0 s.f1 = true
  · have e : mx2 a s = s := by unfold mx2; rw [if_pos h0]; exact if_pos h1
    have h2 : a.f0 < s.f0 ∨ a.f0 = s.f0 ∧ a.f1 < s.f1 := of_decide_eq_true h1
    rw [e]
    unfold leT
    simp only
    omega
  · have e : mx2 a s = a := by unfold mx2; rw [if_pos h0]; exact if_neg h1
    rw [e]
    exact ⟨.inr ⟨rfl, Int.le_refl _⟩, h⟩
theorem leT_trans {a b c : S35} (h1 : leT a b) (h2 : leT b c) : leT a c := by unfold leT at *; omega
attribute [local go_sem high] eqA32 eqA35 eqA63 eqA65
theorem inv_keep {ws : List S63} {mn : S35} {L L' : List S65} (h : Inv ws mn L) (e : (byL L' 77 7).Perm (byL L 77 7)) : Inv ws mn L' := e.trans h
theorem rawl (L : List S65) (c n : Int) (s : S35) : (raiseL L c n s).length = L.length := by unfold raiseL; rw [List.length_map]
theorem layl (L : List S65) (c n : Int) (st mn : S35) (pr : ByteArray) (l : List S63) : (layL L c n st mn pr l).length ≤ L.length + 16 := by
  have h := lay_len L c n st mn pr l
  by_cases e : layB L c n st mn pr l = 0
  · have := h.1 e; omega
  · rw [h.2 e]; omega
theorem inv_raise2 {ws : List S63} {ls mn : S35} {L : List S65} (h : Inv ws mn L) (le : leT ls mn) (lo : leT ⟨2, 0⟩ mn) (r : Bool) (c n : Int) (s : S35) : ∃ mn', Inv ws mn' (if r = true then raiseL L c n s else L) ∧ leT ls mn' ∧ leT ⟨2, 0⟩ mn' ∧ (if r = true then raiseL L c n s else L).length = L.length := by
  cases r
  · exact ⟨mn, h, le, lo, rfl⟩
  · by_cases e : c = 77 ∧ n = 7
    · obtain ⟨rfl, rfl⟩ := e
      exact ⟨mx2 mn s, inv_raise h s, leT_trans le (leT_mx mn s lo).1, (leT_mx mn s lo).2, rawl _ _ _ _⟩
    · exact ⟨mn, inv_keep h (List.Perm.of_eq (by_raise e s)), le, lo, rawl _ _ _ _⟩
theorem Tab.sortd {W : World} {t m : Nat} {L : List S65} {fp : List Nat} (h : Tab W t m L fp) : Sorted (L.map pairOf) := by
  obtain ⟨hb, kb, Hs, fk, h1, _, _⟩ := h
  exact h1.hk.sorted
theorem th_byn {w V W' : World} {t m : Nat} {L : List S65} {fp : List Nat} {B : List (Nat × Obj)} (h : Th w V t m L fp B) (mm : Mod V W' []) (hLl : L.length ≤ 1000000) (c n : Int) (hk : inK c n) {N : Nat} (hN : (byL L c n).length = N) :
    Calls Try.prog 29 #[.pointer (some ⟨t, 0, none⟩), .agg #[.int .u32 c, .int .u32 n]] W' fun e W'' => ∃ A k, e = .returned (.slice A N k) ∧ Th w W'' t m L fp B ∧ Mod W' W'' [] := by
  subst hN
  exact (th_by h mm hLl c n hk rfl).mono fun e W'' ⟨A, k, h1, _, h2, h3⟩ => ⟨A, k, h1, h2, h3⟩
theorem th_cutn {w V W' : World} {t m : Nat} {L : List S65} {fp : List Nat} {B : List (Nat × Obj)} (h : Th w V t m L fp B) (mm : Mod V W' []) (hLl : L.length ≤ 1000000) (c n : Int) (hk : inK c n) {N : Nat} (hN : (byL L c n).length = N) {L' : List S65} (hL' : offL L c n = L') :
    Calls Try.prog 30 #[.pointer (some ⟨t, 0, none⟩), .agg #[.int .u32 c, .int .u32 n]] W' fun e W'' => ∃ A k, e = .returned (.slice A N k) ∧ ∃ fp', Th w W'' t m L' fp' B := by
  subst hN
  exact (th_cut h mm hLl c n hk rfl hL').mono fun e W'' ⟨A, k, h1, _, h2⟩ => ⟨A, k, h1, h2⟩
/-- what the law holds: the table, the name's block, the least stamp's block -/
structure Ho (w V : World) (t m : Nat) (L : List S65) (fp : List Nat) (qm ql : Nat) (ls mn : S35) (ws : List S63) : Prop where
  hT : Th w V t m L fp [(qm, .cells #[.int .u32 77, .int .u32 7] 32 (0, 0)), (ql, .cells #[.int .u64 ls.f0, .int .u32 ls.f1] 35 (0, 0))]
  ne : qm ≠ ql
  hw : w.heap.size ≤ ql
  inv : Inv ws mn L
  le : leT ls mn
  lo : leT ⟨2, 0⟩ mn
theorem Ho.mod {w V V' : World} {t m : Nat} {L : List S65} {fp : List Nat} {qm ql : Nat} {ls mn : S35} {ws : List S63} (h : Ho w V t m L fp qm ql ls mn ws) (mm : Mod V V' []) : Ho w V' t m L fp qm ql ls mn ws := ⟨h.hT.mod mm, h.ne, h.hw, h.inv, h.le, h.lo⟩
theorem Ho.me {w V : World} {t m : Nat} {L : List S65} {fp : List Nat} {qm ql : Nat} {ls mn : S35} {ws : List S63} (h : Ho w V t m L fp qm ql ls mn ws) : V.cell? ⟨qm, 0, none⟩ = some (.int .u32 77) ∧ V.cell? ⟨qm, 1, none⟩ = some (.int .u32 7) ∧ V.cell? ⟨ql, 0, none⟩ = some (.int .u64 ls.f0) ∧ V.cell? ⟨ql, 1, none⟩ = some (.int .u32 ls.f1) := by
  have h1 := (h.hT.hx _ (List.mem_cons_self)).1
  have h2 := (h.hT.hx (ql, _) (List.mem_cons_of_mem _ (List.mem_cons_self))).1
  exact ⟨(blk_cell h1 0).trans rfl, (blk_cell h1 1).trans rfl, (blk_cell h2 0).trans rfl, (blk_cell h2 1).trans rfl⟩
theorem Ho.put {w V : World} {t m : Nat} {L : List S65} {fp : List Nat} {qm ql : Nat} {ls mn : S35} {ws : List S63} (h : Ho w V t m L fp qm ql ls mn ws) : Ho w (putSB V ql mn) t m L fp qm ql mn mn ws := by
  have m1 := (Mod.refl V [ql]).putSB (g := ql) (.inl (by simp)) mn
  have hl := h.hT.hx (ql, _) (List.mem_cons_of_mem _ (List.mem_cons_self))
  have hq := h.hT.hx (qm, _) (List.mem_cons_self)
  refine ⟨⟨h.hT.hT.mod m1 (fun x hx hm => by simp at hm; subst hm; exact hl.2 hx), h.hT.gf, h.hT.hM.trans m1 (fun k hk => .inr (by simp at hk; subst hk; exact h.hw)), fun p hp => ?_⟩, h.ne, h.hw, h.inv, .inr ⟨rfl, Int.le_refl _⟩, h.lo⟩
  have b : SB V ql ls := hl.1
  simp only [List.mem_cons, List.not_mem_nil, or_false] at hp
  rcases hp with rfl | rfl
  · exact ⟨m1.at_ hq.1 (by simpa using h.ne), hq.2⟩
  · exact ⟨b.put mn, hl.2⟩
set_option maxHeartbeats 40000000 in
set_option maxRecDepth 100000 in
theorem holds_walk {Aw0 : Option Addr} {cw0 : Nat} {ws : List S63} {A : Option Addr} {cc : Nat} {l : List S58} {w : World} (hws : Kd.C k63 w Aw0 ws.length ws) (hwc : ws.length ≤ cw0) (hr : Kd.C k58 w A l.length l) (hc : l.length ≤ cc) (hok : ∀ a ∈ l, okAct a) :
    Calls Try.prog 9 #[.slice Aw0 ws.length cw0, .slice A l.length cc] w fun e w' => e = .returned (.bool true) ∧ Mod w w' [] := by
  have hr63 : l.length ≤ 9223372036854775807 := hr.2.1
  have HR := Lib.hid (And.intro hr (And.intro hc hok))
  have HW := Lib.hid (And.intro hws hwc)
  clear hr hc hok hws hwc
  go_enter Try.func9, Try.ntmps9
  go_wp2_with fail
  refine (awake_calls _).mono ?_
  rintro e W1 ⟨rfl, m1⟩
  go_wp2_with fail
  refine (newT_calls _).mono ?_
  rintro e V1 ⟨t, fp0, rfl, hT, mv, hn⟩
  have H0 : Hid (Th w V1 t 0 [] fp0 []) := Lib.hid ⟨hT, fun y hy => by have := m1.size; have := hn y hy; omega, m1.trans mv (fun _ hk => by cases hk), fun p hp => by cases hp⟩
  clear hT m1 mv hn
  have H1 := Lib.hid (H0.out.box (.cells #[.int .u32 77, .int .u32 7] 32))
  have hqm : w.heap.size ≤ V1.heap.size := H0.out.hM.size
  go_upto_region 5 with fail
  generalize V1.alloc _ = V2 at *
  generalize V1.heap.size = qm at *
  have hm0 := (H1.out.hx _ (List.mem_cons_self)).1
  have m0 : V2.cell? ⟨qm, 0, none⟩ = some (.int .u32 77) := (blk_cell hm0 0).trans rfl
  have m1 : V2.cell? ⟨qm, 1, none⟩ = some (.int .u32 7) := (blk_cell hm0 1).trans rfl
  clear hm0 H0
  cases hrw : rightW ws
  · have hb := start_bad hrw
    go_wp2_with fail
    refine (th_lay2 H1.out (Mod.refl _ _) (by omega) (by simp) 77 7 ⟨by omega, by omega, by omega, by omega⟩ ⟨1, 0⟩ ⟨2, 0⟩ ownB HW.out.1 HW.out.2 hb rfl).mono ?_
    rintro e V3 ⟨rfl, fp3, h3⟩
    have H3 := Lib.hid h3
    clear h3 hb
    go_wp2_with fail
    refine (rightW_calls Aw0 cw0 ws _ (Kd.C_below HW.out.1 H3.out.hM.bel) HW.out.2 hrw).mono ?_
    rintro e V4 ⟨rfl, m4⟩
    have hM := H3.out.hM.trans m4 (fun _ hk => by cases hk)
    go_wp2
    go_ret
    exact ⟨rfl, hM⟩
  · obtain ⟨hb, hi⟩ := inv_start hrw
    obtain ⟨L0, hL0⟩ : ∃ L0, layL [] 77 7 ⟨1, 0⟩ ⟨2, 0⟩ ownB ws = L0 := ⟨_, rfl⟩
    have hl0 : L0.length ≤ 16 := by have := layl [] 77 7 ⟨1, 0⟩ ⟨2, 0⟩ ownB ws; rw [hL0] at this; simpa using this
    rw [hL0] at hi
    have HI := Lib.hid (And.intro hb (And.intro hL0 hi))
    clear hb hL0 hi
    go_wp2_with fail
    refine (th_lay2 H1.out (Mod.refl _ _) (by omega) (by simp) 77 7 ⟨by omega, by omega, by omega, by omega⟩ ⟨1, 0⟩ ⟨2, 0⟩ ownB HW.out.1 HW.out.2 HI.out.1 HI.out.2.1).mono ?_
    rintro e V3 ⟨rfl, fp3, h3⟩
    have hne : qm ≠ V3.heap.size := by have h := blk_lt (h3.hx _ (List.mem_cons_self)).1; simp only at h; omega
    have H3 := Lib.hid (And.intro (h3.box (.cells #[.int .u64 2, .int .u32 0] 35)) (And.intro h3.hM.size hne))
    clear h3 m0 m1 H1 hne
    go_upto_region 8 with fail
    generalize V3.alloc _ = V4 at *
    generalize V3.heap.size = ql at *
    have HO : Hid (Ho w V4 t 1 L0 fp3 qm ql ⟨2, 0⟩ ⟨2, 0⟩ ws) := Lib.hid ⟨H3.out.1.less (fun p hp => by simp at hp ⊢; rcases hp with rfl | rfl <;> simp), H3.out.2.2, H3.out.2.1, HI.out.2.2, .inr ⟨rfl, Int.le_refl _⟩, .inr ⟨rfl, Int.le_refl _⟩⟩
    have hw16 : 0 < ws.length ∧ ws.length ≤ 16 := by
      have h := hrw
      unfold rightW at h
      simp only [Bool.and_eq_true, decide_eq_true_eq] at h
      exact ⟨h.1.1.1, h.1.1.2⟩
    clear H3 HI hrw
    go_upto_block 0 with fail
    go_cut [] from 36 to 155 (fun wr => ∃ (fp : List Nat) (L : List S65) (ls mn : S35), L.length ≤ 2000 ∧ Ho w wr t 102 L fp qm ql ls mn ws)
    case rest =>
      obtain ⟨fp, L, ls, mn, hL, hH⟩ := hcut
      have H := Lib.hid hH
      clear hH HO
      have hlen : (byL L 77 7).length = ws.length := by have h := H.out.inv.length_eq; rwa [List.length_map] at h
      have HG : Hid (∀ y ∈ ws, findI y.f0 (offL L 77 7) = none) := Lib.hid fun y hy => inv_gone H.out.hT.hT.sortd H.out.inv hy
      have HN := Lib.hid hlen
      clear hlen
      have hoff := off_len L 77 7
      have HO := Lib.hid hoff
      clear hoff
      obtain ⟨me0, me1, _, _⟩ := H.out.me
      go_wp2_with fail
      refine (th_cutn H.out.hT (Mod.refl _ _) (by omega) 77 7 ⟨by omega, by omega, by omega, by omega⟩ HN.out rfl).mono ?_
      rintro e W5 ⟨A5, k5, rfl, fp5, h5⟩
      have H5 : Hid (Ho w W5 t 102 (offL L 77 7) fp5 qm ql ls mn []) := Lib.hid ⟨h5, H.out.ne, H.out.hw, ?inv5, H.out.le, H.out.lo⟩
      case inv5 =>
        unfold Inv
        rw [List.eq_nil_of_length_eq_zero HO.out.2.2]
        exact List.Perm.refl _
      clear h5 me0 me1
      obtain ⟨me0, me1, _, _⟩ := H5.out.me
      go_wp2_with fail
      refine (th_byn H5.out.hT (Mod.refl _ _) (by have := HO.out; omega) 77 7 ⟨by omega, by omega, by omega, by omega⟩ HO.out.2.2).mono ?_
      rintro e W6 ⟨A6, k6, rfl, h6, m6⟩
      have H6 := Lib.hid h6
      clear h6 m6 me0 me1 H5
      go_wp2_with fail
      go_loopg [173] ws.length (fun k i wq => ∃ (i' : Nat), i' ≤ ws.length ∧ k = ws.length - i' ∧ i = .int .i64 i' ∧ Mod W6 wq [])
      case atStart => exact ⟨0, Nat.zero_le _, rfl, rfl, Mod.refl _ _⟩
      case round =>
        obtain ⟨i, hi, rfl, rfl, hM⟩ := hrel
        have H7 := Lib.hid (And.intro (H6.out.mod hM) hM)
        clear hM
        by_cases hil : i < ws.length
        · have hiz : (i : Int) < (ws.length : Int) := by omega
          have hwi : IntKind.i64.wrap ((i : Int) + 1) = ((i + 1 : Nat) : Int) := by rw [i64w (by omega) (by omega)]; omega
          obtain ⟨ae, rfl, b0, b1, b2⟩ := wr_cells HW.out.1 i hil
          have b0' := H7.out.1.hM.cellA b0 (by simp)
          have b1' := H7.out.1.hM.cellA b1 (by simp)
          have b2' := H7.out.1.hM.cellA b2 (by simp)
          have hfi := Lib.hid (HG.out _ (List.getElem_mem hil))
          have x11 : WB (wr.alloc (.cells #[.string ws[i].f0, .string ws[i].f1, .bool ws[i].f2] 63)) wr.heap.size ws[i] := blk_new wr _
          have m11 : Mod wr (wr.alloc (.cells #[.string ws[i].f0, .string ws[i].f1, .bool ws[i].f2] 63)) [] := (Mod.refl wr []).alloc _
          have H11 := Lib.hid (And.intro (H7.out.1.mod m11) (And.intro x11 (H7.out.2.trans m11 (fun _ hk => by cases hk))))
          clear b0 b1 b2 x11 m11 H7
          generalize ws[i] = y at *
          go_upto_region 35 with fail
          clear b0' b1' b2'
          generalize wr.alloc _ = V6 at *
          generalize wr.heap.size = q11 at *
          obtain ⟨y0, y1, y2⟩ := H11.out.2.1.all
          go_wp2_with fail
          refine (th_of H11.out.1 (Mod.refl _ _) y.f0 hfi.out).mono ?_
          simp only [ofEnd]
          rintro e V7 ⟨rfl, h7, m7⟩
          have H8 := Lib.hid ((H11.out.2.2.trans m7 (fun _ hk => by cases hk)).trans ((Mod.refl V7 []).alloc (.cells #[.int .u32 0, .int .u32 0, .int .u64 0, .int .u32 0, .int .u64 0, .int .u32 0, .string ⟨#[]⟩, .string ⟨#[]⟩, .string ⟨#[]⟩, .bool false] 65)) (fun _ hk => by cases hk))
          clear h7 m7 y0 y1 y2
          go_wp2
          go_roundg (ws.length - (i + 1))
          case measure => omega
          case rel => exact ⟨i + 1, by omega, rfl, by rw [show ((i + 1 : Nat) : Int) = (i : Int) + 1 by omega], H8.out⟩
        · obtain rfl : i = ws.length := by omega
          have hiz : ¬ ((ws.length : Int) < (ws.length : Int)) := by omega
          have hM := H7.out.1.hM
          go_wp2
          go_ret
          exact ⟨rfl, hM⟩
    case first =>
      go_wp2_with fail
      go_loopg [36] l.length (fun k i wr => ∃ (j : Nat) (fp : List Nat) (L : List S65) (ls mn : S35), j ≤ l.length ∧ k = l.length - j ∧ i = .int .i64 j ∧ j ≤ 100 ∧ L.length ≤ 16 * (j + 1) ∧ Ho w wr t (j + 1) L fp qm ql ls mn ws)
      case atStart => exact ⟨0, fp3, L0, _, _, Nat.zero_le _, rfl, rfl, by omega, by omega, HO.out⟩
      case round =>
        obtain ⟨j, fp, L, ls, mn, hj, rfl, rfl, hj3, hlen, hD⟩ := hrel
        have HN := Lib.hid hD
        clear hD HO
        by_cases hjl : j < l.length
        · obtain ⟨ad, A1, cw1, A2, cb1, rfl, hcw, hkw, hcb, hkb, a0, a1, a2, a3, a4, a5, a6, a7, a8, a9, aa, ab⟩ := act_cells2 HR.out.1 HN.out.hT.hM j hjl
          have hjz : (j : Int) < (l.length : Int) := by omega
          by_cases h3 : j = 100
          · subst h3
            have e5 : ad.add (100 * 12) = ⟨ad.block, ad.off + 1200, none⟩ := by simp [Addr.add]
            rw [e5] at a0 a1 a2 a3 a4 a5 a6 a7 a8 a9 aa ab
            dsimp only at a0 a1 a2 a3 a4 a5 a6 a7 a8 a9 aa ab
            have HE := Lib.hid (HN.out.mod ((Mod.refl wr []).alloc (.cells #[.int .i64 l[100].f0, .int .u32 l[100].f1.f0, .int .u32 l[100].f1.f1, .int .u64 l[100].f2.f0, .int .u32 l[100].f2.f1, .int .u64 l[100].f3.f0, .int .u32 l[100].f3.f1, .string l[100].f4, .slice A1 l[100].f5.length cw1, .string l[100].f6, .string l[100].f7, .slice A2 l[100].f8.length cb1] 58)))
            clear hcw hkw hcb hkb
            go_wp2
            go_meet
            case rel => exact ⟨fp, L, ls, mn, by omega, ⟨HE.out.hT.mono (by omega), HE.out.ne, HE.out.hw, HE.out.inv, HE.out.le, HE.out.lo⟩⟩
          · have h3z : ¬ ((j : Int) = 100) := by omega
            have h3b : ((j : Int) == 100) = false := by simpa using h3z
            have hw : IntKind.i64.wrap ((j : Int) + 1) = ((j + 1 : Nat) : Int) := by rw [i64w (by omega) (by omega)]; omega
            have hok := HR.out.2.2 l[j] (List.getElem_mem _)
            have HX := Lib.hid (And.intro hok (And.intro hcw hkw))
            clear hok hkw hkb hcb hcw
            generalize l[j] = y at *
            obtain ⟨x0, ⟨x1, x2⟩, ⟨x3, x4⟩, ⟨x5, x6⟩, x7, xw, x8, x9, xb⟩ := y
            dsimp only at a0 a1 a2 a3 a4 a5 a6 a7 a8 a9 aa ab HX ⊢
            have mx := (Mod.refl wr []).alloc (.cells #[.int .i64 x0, .int .u32 x1, .int .u32 x2, .int .u64 x3, .int .u32 x4, .int .u64 x5, .int .u32 x6, .string x7, .slice A1 xw.length cw1, .string x8, .string x9, .slice A2 xb.length cb1] 58)
            have bx := blk_new wr (.cells #[.int .i64 x0, .int .u32 x1, .int .u32 x2, .int .u64 x3, .int .u32 x4, .int .u64 x5, .int .u32 x6, .string x7, .slice A1 xw.length cw1, .string x8, .string x9, .slice A2 xb.length cb1] 58)
            have HS := Lib.hid (HN.out.mod mx)
            clear HN mx
            go_upto_block 2 with fail
            clear a0 a1 a2 a3 a4 a5 a6 a7 a8 a9 aa ab
            generalize wr.alloc _ = V at *
            generalize wr.heap.size = q at *
            go_cut [] from 38 to 81 (fun wr => ∃ (fp : List Nat) (L : List S65) (mn : S35), L.length ≤ 16 * (j + 2) ∧ Ho w wr t (j + 2) L fp qm ql ls mn ws)
            case rest =>
              obtain ⟨fp2, L2, mn2, hl2, hH⟩ := hcut
              have HB := Lib.hid hH
              clear hH HS bx
              go_wp2_with fail
              go_loopg [84] ws.length (fun k i wq => ∃ (i' : Nat) (ls' : S35), i' ≤ ws.length ∧ k = ws.length - i' ∧ i = .int .i64 i' ∧ Ho w wq t (j + 2) L2 fp2 qm ql ls' mn2 ws)
              case atStart => exact ⟨0, ls, Nat.zero_le _, rfl, rfl, HB.out⟩
              case round =>
                obtain ⟨i, ls2, hi, rfl, rfl, hH⟩ := hrel
                have HB2 := Lib.hid hH
                clear hH HB
                by_cases hil : i < ws.length
                · have hiz : (i : Int) < (ws.length : Int) := by omega
                  have hwi : IntKind.i64.wrap ((i : Int) + 1) = ((i + 1 : Nat) : Int) := by rw [i64w (by omega) (by omega)]; omega
                  obtain ⟨ae, rfl, b0, b1, b2⟩ := wr_cells HW.out.1 i hil
                  have b0' := HB2.out.hT.hM.cellA b0 (by simp)
                  have b1' := HB2.out.hT.hM.cellA b1 (by simp)
                  have b2' := HB2.out.hT.hM.cellA b2 (by simp)
                  obtain ⟨ae', e', d0, d1, d2⟩ := wr_cells HW.out.1 (ws.length - 1) (by omega)
                  injection e' with e'
                  subst e'
                  have HD := Lib.hid (And.intro d0 (And.intro d1 d2))
                  have hfi := Lib.hid (inv_find HB2.out.hT.hT.sortd HB2.out.inv (List.getElem_mem hil))
                  have x11 : WB (wr.alloc (.cells #[.string ws[i].f0, .string ws[i].f1, .bool ws[i].f2] 63)) wr.heap.size ws[i] := blk_new wr _
                  have H11 := Lib.hid (And.intro (HB2.out.mod ((Mod.refl wr []).alloc (.cells #[.string ws[i].f0, .string ws[i].f1, .bool ws[i].f2] 63))) x11)
                  clear b0 b1 b2 d0 d1 d2 x11 HB2
                  generalize ws[i] = y at *
                  go_upto_region 22 with fail
                  clear b0' b1' b2'
                  generalize wr.alloc _ = V6 at *
                  generalize wr.heap.size = q11 at *
                  obtain ⟨y0, y1, y2⟩ := H11.out.2.all
                  go_wp2_with fail
                  refine (th_of H11.out.1.hT (Mod.refl _ _) y.f0 hfi.out).mono ?_
                  simp only [ofEnd, meI, mkI]
                  rintro e V7 ⟨rfl, h7, m7⟩
                  have x12 : IB (V7.alloc (.cells #[.int .u32 77, .int .u32 7, .int .u64 1, .int .u32 0, .int .u64 mn2.f0, .int .u32 mn2.f1, .string ownB, .string y.f0, .string y.f1, .bool y.f2] 65)) V7.heap.size (meI mn2 y) := blk_new V7 _
                  have m12 := (Mod.refl V7 []).alloc (.cells #[.int .u32 77, .int .u32 7, .int .u64 1, .int .u32 0, .int .u64 mn2.f0, .int .u32 mn2.f1, .string ownB, .string y.f0, .string y.f1, .bool y.f2] 65)
                  have H12 := Lib.hid (And.intro ((H11.out.1.mod m7).mod m12) (And.intro ((H11.out.2.mod m7 (by simp)).mod m12 (by simp)) x12))
                  clear h7 m7 x12 m12 y0 y1 y2 H11
                  go_upto_region 23 with fail
                  generalize V7.alloc _ = V8 at *
                  generalize V7.heap.size = q12 at *
                  obtain ⟨y0, y1, y2⟩ := H12.out.2.1.all
                  obtain ⟨z0, z1, z2, z3, z4, z5, z6, z7, z8, z9⟩ := H12.out.2.2.all
                  simp only [meI, mkI, ownB] at z0 z1 z2 z3 z4 z5 z6 z7 z8 z9
                  obtain ⟨me0, me1, ls0, ls1⟩ := H12.out.1.me
                  have hle := H12.out.1.le
                  have hle1 : ¬ (mn2.f0 < ls2.f0) := by unfold leT at hle; omega
                  have hle2 : mn2.f0 = ls2.f0 → ¬ (mn2.f1 < ls2.f1) := by unfold leT at hle; omega
                  go_cut [143] from 88 to 142 (fun s143 wz => s143 = .bool false ∧ wz = V8)
                  case rest =>
                    obtain ⟨rfl, rfl⟩ := hcut
                    obtain ⟨p, hp⟩ : ∃ p, ws.length - 1 = p := ⟨_, rfl⟩
                    have hpl : p < ws.length := by omega
                    have hpz : (p : Int) < (ws.length : Int) := by omega
                    have hpw : IntKind.i64.wrap ((ws.length : Int) - 1) = (p : Int) := by rw [i64w (by omega) (by omega)]; omega
                    have d0 := H12.out.1.hT.hM.cellA HD.out.1 (by simp)
                    have d1 := H12.out.1.hT.hM.cellA HD.out.2.1 (by simp)
                    have d2 := H12.out.1.hT.hM.cellA HD.out.2.2 (by simp)
                    simp only [hp] at d0 d1 d2
                    generalize ws[p] = v at *
                    have fz := blk_frozen (H12.out.1.hT.hx (ql, _) (List.mem_cons_of_mem _ (List.mem_cons_self))).1
                    go_upto_region 25 with fail
                    go_quiet (fail)
                    go_wp2
                    all_goals
                      go_roundg (ws.length - (i + 1))
                      case measure => omega
                      case rel =>
                        have hN := H12.out.1.mod (V' := wc.drewN nq) (Mod.drewN (Mod.refl _ _) nq)
                        have hP := hN.put
                        unfold putSB at hP
                        first
                        | exact ⟨i + 1, ls2, by omega, rfl, by rw [show ((i + 1 : Nat) : Int) = (i : Int) + 1 by omega], hN⟩
                        | exact ⟨i + 1, mn2, by omega, rfl, by rw [show ((i + 1 : Nat) : Int) = (i : Int) + 1 by omega], hP⟩
                  case first =>
                    by_cases he : mn2.f0 = ls2.f0
                    · have he2 := hle2 he
                      go_wp2
                      all_goals
                        go_meet
                        case rel => exact ⟨by simp [*], rfl⟩
                    · go_wp2
                      all_goals
                        go_meet
                        case rel => exact ⟨by simp [*], rfl⟩
                · obtain rfl : i = ws.length := by omega
                  have hiz : ¬ ((ws.length : Int) < (ws.length : Int)) := by omega
                  go_wp2
                  go_roundg (l.length - (j + 1))
                  case measure => omega
                  case rel => exact ⟨j + 1, fp2, L2, ls2, mn2, by omega, rfl, by rw [show ((j + 1 : Nat) : Int) = (j : Int) + 1 by omega], by omega, by omega, HB2.out⟩
            case first =>
              have c0 : V.cell? ⟨q, 0, none⟩ = some (.int .i64 x0) := (blk_cell bx 0).trans rfl
              have c1 : V.cell? ⟨q, 1, none⟩ = some (.int .u32 x1) := (blk_cell bx 1).trans rfl
              have c2 : V.cell? ⟨q, 2, none⟩ = some (.int .u32 x2) := (blk_cell bx 2).trans rfl
              have c3 : V.cell? ⟨q, 3, none⟩ = some (.int .u64 x3) := (blk_cell bx 3).trans rfl
              have c4 : V.cell? ⟨q, 4, none⟩ = some (.int .u32 x4) := (blk_cell bx 4).trans rfl
              have c5 : V.cell? ⟨q, 5, none⟩ = some (.int .u64 x5) := (blk_cell bx 5).trans rfl
              have c6 : V.cell? ⟨q, 6, none⟩ = some (.int .u32 x6) := (blk_cell bx 6).trans rfl
              have c7 : V.cell? ⟨q, 7, none⟩ = some (.string x7) := (blk_cell bx 7).trans rfl
              have c8 : V.cell? ⟨q, 8, none⟩ = some (.slice A1 xw.length cw1) := (blk_cell bx 8).trans rfl
              clear bx
              obtain ⟨me0, me1, ls0, ls1⟩ := HS.out.me
              by_cases h2 : x0 = 2
              · subst h2
                obtain ⟨r, hr⟩ : ∃ r, (decide (byL L x1 x2 ≠ []) && rightB x5 x6) = r := ⟨_, rfl⟩
                obtain ⟨L', hL'⟩ : ∃ L', (if r = true then raiseL L x1 x2 ⟨x5, x6⟩ else L) = L' := ⟨_, rfl⟩
                have HL := Lib.hid (And.intro hr (And.intro hL' (hL' ▸ inv_raise2 HS.out.inv HS.out.le HS.out.lo r x1 x2 ⟨x5, x6⟩)))
                clear hr hL'
                go_wp2_with fail
                refine (th_raise HS.out.hT (Mod.refl _ _) x1 x2 HX.out.1.1 ⟨x5, x6⟩ HL.out.1 HL.out.2.1).mono ?_
                rintro e W5 ⟨rfl, fp5, h5⟩
                have H5 := Lib.hid h5
                clear h5
                go_wp2
                go_meet
                case rel =>
                  obtain ⟨mn', i1, i2, i3, i4⟩ := HL.out.2.2
                  exact ⟨fp5, L', mn', by omega, ⟨H5.out.mono (by omega), HS.out.ne, HS.out.hw, i1, i2, i3⟩⟩
              · have h2b : (x0 == 2) = false := by simpa using h2
                by_cases e1 : x1 = 77 ∧ x2 = 7
                · obtain ⟨rfl, rfl⟩ := e1
                  go_wp2
                  go_meet
                  case rel => exact ⟨fp, L, mn, by omega, ⟨HS.out.hT.mono (by omega), HS.out.ne, HS.out.hw, HS.out.inv, HS.out.le, HS.out.lo⟩⟩
                · have e2 : (x1 == 77 && (x2 == 7)) = false := by
                    by_cases a1 : x1 = 77
                    · by_cases a2 : x2 = 7
                      · exact absurd ⟨a1, a2⟩ e1
                      · rw [beq_false_of_ne a2, Bool.and_false]
                    · rw [beq_false_of_ne a1, Bool.false_and]
                  have e3 : x1 = 77 → ¬ x2 = 7 := fun a b => e1 ⟨a, b⟩
                  have HE1 := Lib.hid e1
                  clear e1
                  by_cases h0 : x0 = 0
                  · subst h0
                    go_wp2_with fail
                    refine (th_lay2 HS.out.hT (Mod.refl _ _) (by omega) (by omega) x1 x2 HX.out.1.1 ⟨x3, x4⟩ ⟨x5, x6⟩ x7 HX.out.2.2 HX.out.2.1 rfl rfl).mono ?_
                    rintro e W5 ⟨rfl, fp5, h5⟩
                    have H5 := Lib.hid h5
                    clear h5
                    go_wp2
                    go_meet
                    case rel => exact ⟨fp5, _, mn, by have := layl L x1 x2 ⟨x3, x4⟩ ⟨x5, x6⟩ x7 xw; omega, ⟨H5.out, HS.out.ne, HS.out.hw, inv_keep HS.out.inv (by_lay HE1.out _ _ _ _), HS.out.le, HS.out.lo⟩⟩
                  · have h0b : (x0 == 0) = false := by simpa using h0
                    by_cases h1 : x0 = 1
                    · subst h1
                      go_wp2_with fail
                      refine (th_cut HS.out.hT (Mod.refl _ _) (by omega) x1 x2 HX.out.1.1 rfl rfl).mono ?_
                      rintro e W5 ⟨A5, k5, rfl, _, fp5, h5⟩
                      have H5 := Lib.hid h5
                      clear h5
                      go_wp2
                      go_meet
                      case rel => exact ⟨fp5, _, mn, by have := (off_len L x1 x2).1; omega, ⟨H5.out.mono (by omega), HS.out.ne, HS.out.hw, inv_keep HS.out.inv (List.Perm.of_eq (by_off HE1.out)), HS.out.le, HS.out.lo⟩⟩
                    · have h1b : (x0 == 1) = false := by simpa using h1
                      go_wp2
                      go_meet
                      case rel => exact ⟨fp, L, mn, by omega, ⟨HS.out.hT.mono (by omega), HS.out.ne, HS.out.hw, HS.out.inv, HS.out.le, HS.out.lo⟩⟩
        · obtain rfl : j = l.length := by omega
          have hzz : ¬ ((l.length : Int) < (l.length : Int)) := by omega
          go_wp2
          go_meet
          case rel => exact ⟨fp, L, ls, mn, by omega, ⟨HN.out.hT.mono (by omega), HN.out.ne, HN.out.hw, HN.out.inv, HN.out.le, HN.out.lo⟩⟩
end Go.Proofs.Ytdelbidaclddgaa.Lat
