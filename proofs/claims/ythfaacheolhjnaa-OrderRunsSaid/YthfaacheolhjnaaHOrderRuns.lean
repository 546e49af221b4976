/- The law OrderRuns walked by hand; a seat's own text. -/
import Derived.Test.YthfaacheolhjnaaOrdRef
import Derived.Test.YthfaacheolhjnaaPOrderRunsx1
import Derived.Deep.LoopGhost
import Derived.Deep.Cut
import Derived.Lib.Hide
import Derived.StillTailTactics
import Derived.Deep.QuietTactic
import Derived.BigQuiet
import Derived.Outline
import Derived.Deep.RegionWith
import Derived.Deep.RegionHeld3
import Derived.WalkLawsBesides
namespace Go.Proofs.Ythfaacheolhjnaa.Ord
open Go.RowKit Go.Proofs.YthfaacheolhjnaaW.PrintWords
set_option linter.unusedVariables false
set_option linter.unusedSimpArgs false
structure S31 where
  f0 : Int
  f1 : Int
  f2 : Int
  f3 : ByteArray
  f4 : ByteArray
def k31 : Kd S31 := Kd.iso (Kd.pair (Kd.int .i64) (Kd.pair (Kd.int .i64) (Kd.pair (Kd.int .i64) (Kd.pair Kd.string Kd.string)))) (fun x : S31 => (x.f0, (x.f1, (x.f2, (x.f3, x.f4)))))
theorem k31_open {w : World} {x : S31} {cs : List Value} (h : k31.K w x cs) : cs = [.int .i64 x.f0, .int .i64 x.f1, .int .i64 x.f2, .string x.f3, .string x.f4] := by
  obtain ⟨_, _, rfl, rfl, ⟨_, _, rfl, rfl, ⟨_, _, rfl, rfl, ⟨_, _, rfl, rfl, rfl⟩⟩⟩⟩ := h
  exact rfl
theorem add_add (ad : Addr) (n i : Nat) (hi : 0 < i) : ad.add (n + i) = ⟨(ad.add n).block, (ad.add n).off + i, none⟩ := by
  unfold Addr.add
  rw [if_neg (by omega)]
  split
  · subst n; simp
  · simp; omega
theorem act_cells {w : World} {A : Option Addr} {l : List S31} (h : Kd.C k31 w A l.length l) (j : Nat) (hj : j < l.length) : ∃ ad, A = some ad ∧ w.cell? (ad.add (j * 5)) = some (.int .i64 l[j].f0) ∧ w.cell? ⟨(ad.add (j * 5)).block, (ad.add (j * 5)).off + 1, none⟩ = some (.int .i64 l[j].f1) ∧ w.cell? ⟨(ad.add (j * 5)).block, (ad.add (j * 5)).off + 2, none⟩ = some (.int .i64 l[j].f2) ∧ w.cell? ⟨(ad.add (j * 5)).block, (ad.add (j * 5)).off + 3, none⟩ = some (.string l[j].f3) ∧ w.cell? ⟨(ad.add (j * 5)).block, (ad.add (j * 5)).off + 4, none⟩ = some (.string l[j].f4) := by
  obtain ⟨ad, hA, hc⟩ := h.2.2 (by omega)
  obtain ⟨c, h1, h2, h3⟩ := hc j _ (List.getElem?_eq_getElem hj)
  have e := k31_open h2
  subst e
  refine ⟨ad, hA, h3 0 _ rfl, ?_, ?_, ?_, ?_⟩
  · rw [← add_add ad (j * 5) 1 (by omega)]; exact h3 1 _ rfl
  · rw [← add_add ad (j * 5) 2 (by omega)]; exact h3 2 _ rfl
  · rw [← add_add ad (j * 5) 3 (by omega)]; exact h3 3 _ rfl
  · rw [← add_add ad (j * 5) 4 (by omega)]; exact h3 4 _ rfl
/-- What holds of the two maps: the same pairs, apart from one another, the call's own. -/
structure St (w W : World) (g g2 : Nat) (L : List (ByteArray × Int)) (fp fp2 : List Nat) : Prop where
  m : MapF W g L fp
  r : RefF W g2 L fp2
  d : ∀ x ∈ fp, x ∉ fp2
  d1 : ∀ x ∈ fp, w.heap.size ≤ x
  d2 : ∀ x ∈ fp2, w.heap.size ≤ x
  k : Mod w W []
theorem St.mod {w W W' : World} {g g2 : Nat} {L : List (ByteArray × Int)} {fp fp2 fp3 : List Nat} (h : St w W g g2 L fp fp2) (m : Mod W W' fp3) (h1 : ∀ x ∈ fp3, x ∉ fp ∧ x ∉ fp2 ∧ w.heap.size ≤ x) : St w W' g g2 L fp fp2 :=
  ⟨h.m.mod m (fun x hx hy => (h1 x hy).1 hx), h.r.mod m (fun x hx hy => (h1 x hy).2.1 hx), h.d, h.d1, h.d2, h.k.trans m (fun x hx => .inr (h1 x hx).2.2)⟩
theorem St.set {w W W' W2 : World} {g g2 : Nat} {L : List (ByteArray × Int)} {fp fp2 fp3 fp4 : List Nat} {key : ByteArray} {x : Int} (h : St w W g g2 L fp fp2) (h1 : MapF W' g (lset L key x) fp3) (m1 : Mod W W' fp) (b1 : ∀ y ∈ fp3, y ∈ fp ∨ W.heap.size ≤ y)
    (h2 : RefF W2 g2 (lset L key x) fp4) (m2 : Mod W' W2 fp2) (b2 : ∀ y ∈ fp4, y ∈ fp2 ∨ W'.heap.size ≤ y) : St w W2 g g2 (lset L key x) fp3 fp4 := by
  have l1 := h.m.lt
  have l2 := h.r.lt
  have l3 := h1.lt
  have sz := m1.size
  have dd : ∀ y ∈ fp3, y ∉ fp2 := fun y hy hz => by
    rcases b1 y hy with hh | hh
    · exact h.d y hh hz
    · have := l2 y hz; omega
  refine ⟨h1.mod m2 dd, h2, fun y hy hz => ?_, fun y hy => ?_, fun y hy => ?_, ?_⟩
  · rcases b2 y hz with hh | hh
    · exact dd y hy hh
    · have := l3 y hy; omega
  · rcases b1 y hy with hh | hh
    · exact h.d1 y hh
    · have := h.k.size; omega
  · rcases b2 y hy with hh | hh
    · exact h.d2 y hh
    · have := h.k.size; omega
  · exact (h.k.trans m1 (fun y hy => .inr (h.d1 y hy))).trans m2 (fun y hy => .inr (h.d2 y hy))
theorem St.cut {w W W' W2 : World} {g g2 : Nat} {L : List (ByteArray × Int)} {fp fp2 fp3 fp4 : List Nat} {key : ByteArray} (h : St w W g g2 L fp fp2) (h1 : MapF W' g (lcut L key) fp3) (m1 : Mod W W' fp) (b1 : ∀ y ∈ fp3, y ∈ fp)
    (h2 : RefF W2 g2 (lcut L key) fp4) (m2 : Mod W' W2 fp2) (b2 : ∀ y ∈ fp4, y ∈ fp2 ∨ W'.heap.size ≤ y) : St w W2 g g2 (lcut L key) fp3 fp4 := by
  have l3 := h1.lt
  have dd : ∀ y ∈ fp3, y ∉ fp2 := fun y hy hz => h.d y (b1 y hy) hz
  refine ⟨h1.mod m2 dd, h2, fun y hy hz => ?_, fun y hy => h.d1 y (b1 y hy), fun y hy => ?_, ?_⟩
  · rcases b2 y hz with hh | hh
    · exact dd y hy hh
    · have := l3 y hy; omega
  · rcases b2 y hy with hh | hh
    · exact h.d2 y hh
    · have := h.k.size; have := m1.size; omega
  · exact (h.k.trans m1 (fun y hy => .inr (h.d1 y hy))).trans m2 (fun y hy => .inr (h.d2 y hy))
/-! what region 17 keeps: the act's cells, the document's row, the maps -/
def Kept (w W : World) (g g2 : Nat) (L : List (ByteArray × Int)) (fp fp2 : List Nat) (b : Nat) (x0 x1 x2 : Int) (x3 x4 : ByteArray) : Prop :=
  St w W g g2 L fp fp2 ∧ W.heap[b]? = some (.cells #[.int .i64 x0, .int .i64 x1, .int .i64 x2, .string x3, .string x4] 31 (0, 0))
theorem Kept.mod {w W W' : World} {g g2 : Nat} {L : List (ByteArray × Int)} {fp fp2 : List Nat} {b : Nat} {x0 x1 x2 : Int} {x3 x4 : ByteArray} (h : Kept w W g g2 L fp fp2 b x0 x1 x2 x3 x4) (m : Mod W W' []) : Kept w W' g g2 L fp fp2 b x0 x1 x2 x3 x4 :=
  ⟨h.1.mod m (by simp), m.at_ h.2 (by simp)⟩
/-- The cells that the region reads: the act's limit, key and end, and the document's row; and what lies behind them. -/
def Sees (w : World) (g g2 : Nat) (L : List (ByteArray × Int)) (fp fp2 : List Nat) (b : Nat) (x0 x1 x2 : Int) (x3 x4 : ByteArray) (A : Option Addr) (c : Nat) (W : World) : Prop :=
  W.cell? ⟨b, 2, none⟩ = some (.int .i64 x2) ∧ W.cell? ⟨b, 3, none⟩ = some (.string x3) ∧ W.cell? ⟨b, 4, none⟩ = some (.string x4) ∧ W.cell? ⟨g2, 0, none⟩ = some (.slice A L.length c) ∧ Hid (Kept w W g g2 L fp fp2 b x0 x1 x2 x3 x4)
theorem Kept.sees {w W : World} {g g2 : Nat} {L : List (ByteArray × Int)} {fp fp2 : List Nat} {b : Nat} {x0 x1 x2 : Int} {x3 x4 : ByteArray} (h : Kept w W g g2 L fp fp2 b x0 x1 x2 x3 x4) : ∃ A c, ∀ W', Mod W W' [] → Sees w g g2 L fp fp2 b x0 x1 x2 x3 x4 A c W' := by
  obtain ⟨v, h1, h2, h3, h4⟩ := h.1.r
  obtain ⟨A, c, rfl, _, _⟩ := h2.C
  exact ⟨A, c, fun W' m => ⟨(blk_cell (m.at_ h.2 (by simp)) 2).trans rfl, (blk_cell (m.at_ h.2 (by simp)) 3).trans rfl, (blk_cell (m.at_ h.2 (by simp)) 4).trans rfl, (blk_cell (m.at_ h1 (by simp)) 0).trans rfl, Lib.hid (h.mod m)⟩⟩
theorem Sees.mod {w W W' : World} {g g2 : Nat} {L : List (ByteArray × Int)} {fp fp2 : List Nat} {b : Nat} {x0 x1 x2 : Int} {x3 x4 : ByteArray} {A : Option Addr} {c : Nat} (h : Sees w g g2 L fp fp2 b x0 x1 x2 x3 x4 A c W) (m : Mod W W' []) : Sees w g g2 L fp fp2 b x0 x1 x2 x3 x4 A c W' := by
  have k := h.2.2.2.2.out
  obtain ⟨v, h1, h2, h3, h4⟩ := k.1.r
  have e : v = .slice A L.length c := by
    have hc : W.cell? ⟨g2, 0, none⟩ = some v := (blk_cell h1 0).trans rfl
    rw [h.2.2.2.1] at hc
    exact (Option.some.inj hc).symm
  subst e
  exact ⟨(blk_cell (m.at_ k.2 (by simp)) 2).trans rfl, (blk_cell (m.at_ k.2 (by simp)) 3).trans rfl, (blk_cell (m.at_ k.2 (by simp)) 4).trans rfl, (blk_cell (m.at_ h1 (by simp)) 0).trans rfl, Lib.hid (k.mod m)⟩
def RowP (W : World) (S : World → Prop) (K : List ByteArray) (e : Ending) (W' : World) : Prop :=
  ∃ A n c, e = .returned (.slice A n c) ∧ n = K.length ∧ K.length ≤ c ∧ Kd.string.C W' A K.length K ∧ Mod W W' [] ∧ S W'
theorem keysS {w W : World} {g g2 : Nat} {L : List (ByteArray × Int)} {fp fp2 : List Nat} {b : Nat} {x0 x1 x2 : Int} {x3 x4 : ByteArray} {A : Option Addr} {c : Nat} (h : Sees w g g2 L fp fp2 b x0 x1 x2 x3 x4 A c W) (hl : L.length ≤ 1000000000) :
    Calls Try.prog 17 #[.pointer (some ⟨g, 0, none⟩), .string x3, .string x4, .int .i64 x2] W (RowP W (Sees w g g2 L fp fp2 b x0 x1 x2 x3 x4 A c) ((rangeL L x3 x4).take x2.toNat)) := by
  refine (mkeys x3 x4 x2 h.2.2.2.2.out.1.m hl).mono ?_
  rintro e W' ⟨v, rfl, ho, hb, hm⟩
  obtain ⟨B, d, rfl, hd, hC⟩ := own_C ho
  exact ⟨B, _, d, rfl, rfl, hd, hC, hm, h.mod hm⟩
theorem rkeysS {w W : World} {g g2 : Nat} {L : List (ByteArray × Int)} {fp fp2 : List Nat} {b : Nat} {x0 x1 x2 : Int} {x3 x4 : ByteArray} {A : Option Addr} {c : Nat} (h : Sees w g g2 L fp fp2 b x0 x1 x2 x3 x4 A c W) (hl : L.length ≤ 1000000000) :
    Calls Try.prog 18 #[.pointer (some ⟨g2, 0, none⟩), .string x3, .string x4, .int .i64 x2] W (RowP W (Sees w g g2 L fp fp2 b x0 x1 x2 x3 x4 A c) ((rangeL L x3 x4).take x2.toNat)) := by
  refine (rkeys_calls x3 x4 x2 h.2.2.2.2.out.1.r hl).mono ?_
  rintro e W' ⟨v, rfl, ho, hb, hm⟩
  obtain ⟨B, d, rfl, hd, hC⟩ := own_C ho
  exact ⟨B, _, d, rfl, rfl, hd, hC, hm, h.mod hm⟩
theorem rows_le {L : List (ByteArray × Int)} {lo hi : ByteArray} {n : Nat} : ((rangeL L lo hi).take n).length ≤ L.length := by
  rw [List.length_take]
  have : (rangeL L lo hi).length ≤ L.length := by unfold rangeL; exact Nat.le_trans (List.length_filter_le _ _) (by simp)
  omega
theorem sameS {W : World} {A B : Option Addr} {n1 n2 c1 c2 : Nat} {L : List (ByteArray × Int)} {lo hi : ByteArray} {n : Nat} (hl : L.length ≤ 1000000000) (e1 : n1 = ((rangeL L lo hi).take n).length) (g1 : ((rangeL L lo hi).take n).length ≤ c1) (h1 : Kd.string.C W A ((rangeL L lo hi).take n).length ((rangeL L lo hi).take n))
    (e2 : n2 = ((rangeL L lo hi).take n).length) (g2 : ((rangeL L lo hi).take n).length ≤ c2) (h2 : Kd.string.C W B ((rangeL L lo hi).take n).length ((rangeL L lo hi).take n)) :
    Calls Try.prog 16 #[.slice A n1 c1, .slice B n2 c2] W fun e W' => e = .returned (.bool true) ∧ Mod W W' [] := by
  subst e1
  subst e2
  exact same_calls (Nat.le_trans rows_le (by omega)) h1 g1 h2 g2
set_option maxRecDepth 100000 in
set_option maxHeartbeats 4000000 in
theorem runs_calls (A : Option Addr) (c : Nat) (l : List S31) (w : World) (hr : Kd.C k31 w A l.length l) (hc : l.length ≤ c) :
    Calls Try.prog 3 #[.slice A l.length c] w (AwkP w) := by
  have HR := Lib.hid (And.intro hr hc)
  clear hr hc
  go_enter Try.func3, Try.ntmps3
  go_wp2_with fail
  refine awake_calls.mono ?_
  rintro e W1 ⟨rfl, m1⟩
  have H1 := Lib.hid m1
  clear m1
  go_wp2_with fail
  refine mnew.mono ?_
  rintro e W2 ⟨rfl, f2, m2⟩
  generalize hg : W1.heap.size = g at f2 ⊢
  have hgs : w.heap.size ≤ g := by rw [← hg]; exact H1.out.size
  have hS : St w (W2.alloc (.cells #[.slice none 0 0] 29)) g W2.heap.size [] [g] [W2.heap.size] := by
    have hl := f2.lt g (by simp)
    have m3 : Mod w W2 [] := H1.out.trans m2 (by simp)
    have ma := (Mod.refl W2 []).alloc (.cells #[.slice none 0 0] 29)
    refine ⟨f2.mod ma (by simp), ⟨.slice none 0 0, blk_new _ _, Items.nil _, by simp [ownList], by simp [ownList]⟩, fun x hx hy => ?_, fun x hx => ?_, fun x hx => ?_, m3.trans ma (by simp)⟩
    · rw [List.mem_singleton] at hx hy; omega
    · rw [List.mem_singleton] at hx; omega
    · rw [List.mem_singleton] at hx; have := m3.size; omega
  have HS := Lib.hid hS
  clear hS f2 m2 hg hgs
  go_wp2_with fail
  generalize W2.heap.size = g2 at *
  go_loopg [18] l.length (fun k i wr => ∃ (j : Nat) (L : List (ByteArray × Int)) (fp fp2 : List Nat), j ≤ l.length ∧ k = l.length - j ∧ i = .int .i64 j ∧ L.length ≤ j ∧ j ≤ 300 ∧ St w wr g g2 L fp fp2)
  case atStart => exact ⟨0, [], [g], [g2], Nat.zero_le _, rfl, rfl, Nat.le_refl _, by omega, HS.out⟩
  case round =>
    obtain ⟨j, L, fp, fp2, hj, rfl, rfl, hL, hj3, hst⟩ := hrel
    have HT := Lib.hid (And.intro hst hL)
    clear hst hL
    by_cases hjl : j < l.length
    · obtain ⟨ad, rfl, a0, a1, a2, a3, a4⟩ := act_cells (Kd.C_below HR.out.1 HT.out.1.k.bel) j hjl
      have hjz : (j : Int) < (l.length : Int) := by omega
      by_cases h3 : j = 300
      · have h3z : (j : Int) = 300 := by omega
        have e5 : ad.add (j * 5) = ⟨ad.block, ad.off + 1500, none⟩ := by rw [h3]; simp [Addr.add]
        rw [e5] at a0 a1 a2 a3 a4
        dsimp only at a0 a1 a2 a3 a4
        clear e5
        have HE : Hid (St w (wr.alloc (.cells #[.int .i64 l[j].f0, .int .i64 l[j].f1, .int .i64 l[j].f2, .string l[j].f3, .string l[j].f4] 31)) g g2 L fp fp2 ∧ L.length ≤ 1000000) := Lib.hid ⟨HT.out.1.mod ((Mod.refl wr []).alloc _) (by simp), by have := HT.out.2; omega⟩
        generalize l[j].f0 = x0 at *
        generalize l[j].f1 = x1 at *
        generalize l[j].f2 = x2 at *
        generalize l[j].f3 = x3 at *
        generalize l[j].f4 = x4 at *
        go_wp2_with fail
        generalize wr.alloc (.cells #[.int .i64 x0, .int .i64 x1, .int .i64 x2, .string x3, .string x4] 31) = V at *
        obtain ⟨K, hK⟩ : ∃ K, (rangeL L ⟨#[]⟩ ⟨#[]⟩).take (1000 : Int).toNat = K := ⟨_, rfl⟩
        have hKn : K.length ≤ 100000000 := by rw [← hK]; exact Nat.le_trans rows_le (by have := HE.out.2; omega)
        have HK := Lib.hid (And.intro hK hKn)
        clear hK hKn
        refine (mkeys (W := V) ⟨#[]⟩ ⟨#[]⟩ 1000 HE.out.1.m (by have := HE.out.2; omega)).mono ?_
        rw [HK.out.1]
        rintro e W10 ⟨v10, rfl, o10, b10, m10⟩
        obtain ⟨A10, c10, rfl, g10, r10⟩ := own_C o10
        have H10 : Hid (Kd.string.C W10 A10 K.length K ∧ K.length ≤ c10 ∧ St w W10 g g2 L fp fp2) := Lib.hid ⟨r10, g10, HE.out.1.mod m10 (by simp)⟩
        clear o10 b10 m10 g10 r10
        go_wp2_with fail
        refine (rkeys_calls ⟨#[]⟩ ⟨#[]⟩ 1000 H10.out.2.2.r (by have := HE.out.2; omega)).mono ?_
        rw [HK.out.1]
        rintro e W11 ⟨v11, rfl, o11, b11, m11⟩
        obtain ⟨A11, c11, rfl, g11, r11⟩ := own_C o11
        have H11 : Hid (Kd.string.C W11 A11 K.length K ∧ K.length ≤ c11 ∧ Kd.string.C W11 A10 K.length K ∧ Mod w W11 []) := Lib.hid ⟨r11, g11, Kd.C_below H10.out.1 m11.bel, H10.out.2.2.k.trans m11 (by simp)⟩
        clear o11 b11 m11 g11 r11
        go_wp2_with fail
        refine (same_calls (by have := HK.out.2; omega) H11.out.2.2.1 H10.out.2.1 H11.out.1 H11.out.2.1).mono ?_
        rintro e W12 ⟨rfl, m12⟩
        have H12 : Hid (Mod w W12 []) := Lib.hid (H11.out.2.2.2.trans m12 (by simp))
        clear m12
        go_wp2
        all_goals go_ret
        all_goals exact ⟨rfl, H12.out⟩
      · have h3z : ¬ ((j : Int) = 300) := by omega
        have h3b : ((j : Int) == 300) = false := by simpa using h3z
        generalize l[j].f0 = x0 at *
        generalize l[j].f1 = x1 at *
        generalize l[j].f2 = x2 at *
        generalize l[j].f3 = x3 at *
        generalize l[j].f4 = x4 at *
        have hbx : St w (wr.alloc (.cells #[.int .i64 x0, .int .i64 x1, .int .i64 x2, .string x3, .string x4] 31)) g g2 L fp fp2 := HT.out.1.mod ((Mod.refl wr []).alloc _) (by simp)
        have hbb : ∀ y ∈ fp, y ≠ wr.heap.size := fun y hy => by have := HT.out.1.m.lt y hy; omega
        have hbb2 : ∀ y ∈ fp2, y ≠ wr.heap.size := fun y hy => by have := HT.out.1.r.lt y hy; omega
        have hbn : (wr.alloc (.cells #[.int .i64 x0, .int .i64 x1, .int .i64 x2, .string x3, .string x4] 31)).heap[wr.heap.size]? = some (.cells #[.int .i64 x0, .int .i64 x1, .int .i64 x2, .string x3, .string x4] 31 (0, 0)) := blk_new _ _
        have hbw : w.heap.size ≤ wr.heap.size := HT.out.1.k.size
        have HB := Lib.hid (And.intro hbx (And.intro hbb (And.intro hbb2 (And.intro hbn hbw))))
        clear hbx hbb hbb2 hbn hbw
        by_cases c0 : x0 = 0
        · subst c0
          go_wp2_with fail
          generalize wr.alloc (.cells #[.int .i64 0, .int .i64 x1, .int .i64 x2, .string x3, .string x4] 31) = V at *
          generalize hb : wr.heap.size = b at *
          refine (mset x3 x1 HB.out.1.m (by have := HT.out.2; omega)).mono ?_
          rintro e V1 ⟨rfl, fp3, f3, m3, b3⟩
          have hb1 := m3.at_ HB.out.2.2.2.1 (fun hy => HB.out.2.1 b hy rfl)
          have hc1 : V1.cell? ⟨b, 1, none⟩ = some (.int .i64 x1) := (blk_cell hb1 1).trans rfl
          have hc3 : V1.cell? ⟨b, 3, none⟩ = some (.string x3) := (blk_cell hb1 3).trans rfl
          have H3 := Lib.hid (And.intro f3 (And.intro m3 (And.intro b3 hb1)))
          clear f3 m3 b3 hb1
          go_wp2_with fail
          have hr2 := HB.out.1.r.mod H3.out.2.1 (fun x hx hy => HB.out.1.d x hy hx)
          refine (rset_calls x3 x1 hr2 (by have := HT.out.2; omega)).mono ?_
          rintro e V2 ⟨rfl, fp4, f4, m4, b4⟩
          have HS : Hid (Kept w V2 g g2 (lset L x3 x1) fp3 fp4 b 0 x1 x2 x3 x4 ∧ (lset L x3 x1).length ≤ j + 1) := Lib.hid ⟨⟨HB.out.1.set H3.out.1 H3.out.2.1 H3.out.2.2.1 f4 m4 b4, m4.at_ H3.out.2.2.2 (fun hy => HB.out.2.2.1 b hy rfl)⟩, by have := HT.out.2; rw [lset_length]; split <;> omega⟩
          clear f4 m4 b4 hr2 hc1 hc3
          generalize lset L x3 x1 = L2 at *
          have hc3 : V2.cell? ⟨b, 3, none⟩ = some (.string x3) := (blk_cell HS.out.1.2 3).trans rfl
          go_wp2_with fail
          refine (mget x3 HS.out.1.1.m).mono ?_
          rintro e V3 ⟨rfl, rfl⟩
          cases hq : lget L2 x3 with
          | none =>
            have HQ := Lib.hid hq
            clear hq
            simp only [getEnd]
            go_wp2_with fail
            refine (rget_calls x3 HS.out.1.1.r (by have := HS.out.2; omega)).mono ?_
            rintro e V4 ⟨rfl, m4⟩
            rw [HQ.out]
            simp only [getEnd]
            obtain ⟨A9, c9, hsee⟩ := (HS.out.1.mod m4).sees
            have S0 := hsee V4.drew ((Mod.refl V4 []).drew)
            have HN : Hid (L2.length ≤ 1000000000) := Lib.hid (by have := HS.out.2; omega)
            clear m4 hsee hc3
            go_upto_region 17 with fail
            go_region_held3 (fun w' => w'.cell? ⟨b, 2, none⟩ = some (.int .i64 x2) ∧ w'.cell? ⟨b, 3, none⟩ = some (.string x3) ∧ w'.cell? ⟨b, 4, none⟩ = some (.string x4) ∧ w'.cell? ⟨g2, 0, none⟩ = some (.slice A9 L2.length c9) ∧ Hid (Kept w w' g g2 L2 fp3 fp4 b 0 x1 x2 x3 x4))
              (first | exact S7 | exact S6 | exact S5 | exact S0)
              (first
              | (go_at_call 15
                 refine (mlen S0.2.2.2.2.out.1.m).mono ?_
                 rintro e Wl ⟨rfl, rfl⟩)
              | (go_at_call 17
                 refine (keysS S0 HN.out).mono ?_
                 rintro e W5 ⟨A5, n5, c5, rfl, e5, g5, r5, m5, S5⟩
                 have H5 := Lib.hid (And.intro e5 (And.intro g5 (And.intro r5 m5)))
                 clear e5 g5 r5 m5)
              | (go_at_call 18
                 refine (rkeysS S5 HN.out).mono ?_
                 rintro e W6 ⟨A6, n6, c6, rfl, e6, g6, r6, m6, S6⟩
                 have H6 := Lib.hid (And.intro e6 (And.intro g6 (And.intro r6 m6)))
                 clear e6 g6 r6 m6)
              | (go_at_call 16
                 refine (sameS HN.out H5.out.1 H5.out.2.1 (Kd.C_below H5.out.2.2.1 H6.out.2.2.2.bel) H6.out.1 H6.out.2.1 H6.out.2.2.1).mono ?_
                 rintro e W7 ⟨rfl, m7⟩
                 have S7 := S6.mod m7
                 clear m7))
            have hw : IntKind.i64.wrap ((j : Int) + 1) = ((j + 1 : Nat) : Int) := by unfold IntKind.wrap; simp [IntKind.signed, IntKind.bits]; omega
            go_wp2
            go_roundg (l.length - (j + 1))
            case measure => omega
            case rel => exact ⟨j + 1, L2, fp3, fp4, by omega, rfl, by rw [show ((j + 1 : Nat) : Int) = (j : Int) + 1 by omega], HS.out.2, by omega, S7.2.2.2.2.out.1⟩
          | some y =>
            have HQ := Lib.hid hq
            clear hq
            simp only [getEnd]
            go_wp2_with fail
            refine (rget_calls x3 HS.out.1.1.r (by have := HS.out.2; omega)).mono ?_
            rintro e V4 ⟨rfl, m4⟩
            rw [HQ.out]
            simp only [getEnd]
            obtain ⟨A9, c9, hsee⟩ := (HS.out.1.mod m4).sees
            have S0 := hsee V4.drew ((Mod.refl V4 []).drew)
            have HN : Hid (L2.length ≤ 1000000000) := Lib.hid (by have := HS.out.2; omega)
            clear m4 hsee hc3
            go_upto_region 17 with fail
            go_region_held3 (fun w' => w'.cell? ⟨b, 2, none⟩ = some (.int .i64 x2) ∧ w'.cell? ⟨b, 3, none⟩ = some (.string x3) ∧ w'.cell? ⟨b, 4, none⟩ = some (.string x4) ∧ w'.cell? ⟨g2, 0, none⟩ = some (.slice A9 L2.length c9) ∧ Hid (Kept w w' g g2 L2 fp3 fp4 b 0 x1 x2 x3 x4))
              (first | exact S7 | exact S6 | exact S5 | exact S0)
              (first
              | (go_at_call 15
                 refine (mlen S0.2.2.2.2.out.1.m).mono ?_
                 rintro e Wl ⟨rfl, rfl⟩)
              | (go_at_call 17
                 refine (keysS S0 HN.out).mono ?_
                 rintro e W5 ⟨A5, n5, c5, rfl, e5, g5, r5, m5, S5⟩
                 have H5 := Lib.hid (And.intro e5 (And.intro g5 (And.intro r5 m5)))
                 clear e5 g5 r5 m5)
              | (go_at_call 18
                 refine (rkeysS S5 HN.out).mono ?_
                 rintro e W6 ⟨A6, n6, c6, rfl, e6, g6, r6, m6, S6⟩
                 have H6 := Lib.hid (And.intro e6 (And.intro g6 (And.intro r6 m6)))
                 clear e6 g6 r6 m6)
              | (go_at_call 16
                 refine (sameS HN.out H5.out.1 H5.out.2.1 (Kd.C_below H5.out.2.2.1 H6.out.2.2.2.bel) H6.out.1 H6.out.2.1 H6.out.2.2.1).mono ?_
                 rintro e W7 ⟨rfl, m7⟩
                 have S7 := S6.mod m7
                 clear m7))
            have hw : IntKind.i64.wrap ((j : Int) + 1) = ((j + 1 : Nat) : Int) := by unfold IntKind.wrap; simp [IntKind.signed, IntKind.bits]; omega
            go_wp2
            go_roundg (l.length - (j + 1))
            case measure => omega
            case rel => exact ⟨j + 1, L2, fp3, fp4, by omega, rfl, by rw [show ((j + 1 : Nat) : Int) = (j : Int) + 1 by omega], HS.out.2, by omega, S7.2.2.2.2.out.1⟩
        · by_cases c1 : x0 = 1
          · subst c1
            go_wp2_with fail
            generalize wr.alloc (.cells #[.int .i64 1, .int .i64 x1, .int .i64 x2, .string x3, .string x4] 31) = V at *
            generalize hb : wr.heap.size = b at *
            have HD : Hid (St w V.drew g g2 L fp fp2 ∧ V.drew.heap[b]? = some (.cells #[.int .i64 1, .int .i64 x1, .int .i64 x2, .string x3, .string x4] 31 (0, 0))) := Lib.hid ⟨HB.out.1.mod ((Mod.refl V []).drew) (by simp), HB.out.2.2.2.1⟩
            have T0 : V.drew.cell? ⟨b, 3, none⟩ = some (.string x3) := (blk_cell HD.out.2 3).trans rfl
            go_region_held3 (fun w' => w'.cell? ⟨b, 3, none⟩ = some (.string x3)) (first | exact T2 | exact T1 | exact T0)
              (first
              | (go_at_call 11
                 refine (mcut x3 HD.out.1.m (by have := HT.out.2; omega)).mono ?_
                 rintro e V1 ⟨rfl, fp3, f3, m3, b3⟩
                 have hb1 := m3.at_ HD.out.2 (fun hy => HB.out.2.1 b hy rfl)
                 have T1 : V1.cell? ⟨b, 3, none⟩ = some (.string x3) := (blk_cell hb1 3).trans rfl
                 have H3 := Lib.hid (And.intro f3 (And.intro m3 (And.intro b3 hb1)))
                 clear f3 m3 b3 hb1)
              | (go_at_call 12
                 refine (rcut_calls x3 (HD.out.1.r.mod H3.out.2.1 (fun x hx hy => HD.out.1.d x hy hx)) (by have := HT.out.2; omega)).mono ?_
                 rintro e V2 ⟨rfl, fp4, f4, m4, b4⟩
                 have hb2 := m4.at_ H3.out.2.2.2 (fun hy => HB.out.2.2.1 b hy rfl)
                 have T2 : V2.cell? ⟨b, 3, none⟩ = some (.string x3) := (blk_cell hb2 3).trans rfl
                 have H4 := Lib.hid (And.intro f4 (And.intro m4 (And.intro b4 hb2)))
                 clear f4 m4 b4 hb2))
            have HS : Hid (Kept w V2 g g2 (lcut L x3) fp3 fp4 b 1 x1 x2 x3 x4 ∧ (lcut L x3).length ≤ j + 1) := Lib.hid ⟨⟨HD.out.1.cut H3.out.1 H3.out.2.1 H3.out.2.2.1 H4.out.1 H4.out.2.1 H4.out.2.2.1, H4.out.2.2.2⟩, by have := HT.out.2; rw [lcut_length]; split <;> omega⟩
            clear T0 T1 T2
            generalize lcut L x3 = L2 at *
            have hc3 : V2.cell? ⟨b, 3, none⟩ = some (.string x3) := (blk_cell HS.out.1.2 3).trans rfl
            go_wp2_with fail
            refine (mget x3 HS.out.1.1.m).mono ?_
            rintro e V3 ⟨rfl, rfl⟩
            cases hq : lget L2 x3 with
            | none =>
              have HQ := Lib.hid hq
              clear hq
              simp only [getEnd]
              go_wp2_with fail
              refine (rget_calls x3 HS.out.1.1.r (by have := HS.out.2; omega)).mono ?_
              rintro e V4 ⟨rfl, m4⟩
              rw [HQ.out]
              simp only [getEnd]
              obtain ⟨A9, c9, hsee⟩ := (HS.out.1.mod m4).sees
              have S0 := hsee V4.drew ((Mod.refl V4 []).drew)
              have HN : Hid (L2.length ≤ 1000000000) := Lib.hid (by have := HS.out.2; omega)
              clear m4 hsee hc3
              go_upto_region 17 with fail
              go_region_held3 (fun w' => w'.cell? ⟨b, 2, none⟩ = some (.int .i64 x2) ∧ w'.cell? ⟨b, 3, none⟩ = some (.string x3) ∧ w'.cell? ⟨b, 4, none⟩ = some (.string x4) ∧ w'.cell? ⟨g2, 0, none⟩ = some (.slice A9 L2.length c9) ∧ Hid (Kept w w' g g2 L2 fp3 fp4 b 1 x1 x2 x3 x4))
                (first | exact S7 | exact S6 | exact S5 | exact S0)
                (first
                | (go_at_call 15
                   refine (mlen S0.2.2.2.2.out.1.m).mono ?_
                   rintro e Wl ⟨rfl, rfl⟩)
                | (go_at_call 17
                   refine (keysS S0 HN.out).mono ?_
                   rintro e W5 ⟨A5, n5, c5, rfl, e5, g5, r5, m5, S5⟩
                   have H5 := Lib.hid (And.intro e5 (And.intro g5 (And.intro r5 m5)))
                   clear e5 g5 r5 m5)
                | (go_at_call 18
                   refine (rkeysS S5 HN.out).mono ?_
                   rintro e W6 ⟨A6, n6, c6, rfl, e6, g6, r6, m6, S6⟩
                   have H6 := Lib.hid (And.intro e6 (And.intro g6 (And.intro r6 m6)))
                   clear e6 g6 r6 m6)
                | (go_at_call 16
                   refine (sameS HN.out H5.out.1 H5.out.2.1 (Kd.C_below H5.out.2.2.1 H6.out.2.2.2.bel) H6.out.1 H6.out.2.1 H6.out.2.2.1).mono ?_
                   rintro e W7 ⟨rfl, m7⟩
                   have S7 := S6.mod m7
                   clear m7))
              have hw : IntKind.i64.wrap ((j : Int) + 1) = ((j + 1 : Nat) : Int) := by unfold IntKind.wrap; simp [IntKind.signed, IntKind.bits]; omega
              go_wp2
              go_roundg (l.length - (j + 1))
              case measure => omega
              case rel => exact ⟨j + 1, L2, fp3, fp4, by omega, rfl, by rw [show ((j + 1 : Nat) : Int) = (j : Int) + 1 by omega], HS.out.2, by omega, S7.2.2.2.2.out.1⟩
            | some y =>
              have HQ := Lib.hid hq
              clear hq
              simp only [getEnd]
              go_wp2_with fail
              refine (rget_calls x3 HS.out.1.1.r (by have := HS.out.2; omega)).mono ?_
              rintro e V4 ⟨rfl, m4⟩
              rw [HQ.out]
              simp only [getEnd]
              obtain ⟨A9, c9, hsee⟩ := (HS.out.1.mod m4).sees
              have S0 := hsee V4.drew ((Mod.refl V4 []).drew)
              have HN : Hid (L2.length ≤ 1000000000) := Lib.hid (by have := HS.out.2; omega)
              clear m4 hsee hc3
              go_upto_region 17 with fail
              go_region_held3 (fun w' => w'.cell? ⟨b, 2, none⟩ = some (.int .i64 x2) ∧ w'.cell? ⟨b, 3, none⟩ = some (.string x3) ∧ w'.cell? ⟨b, 4, none⟩ = some (.string x4) ∧ w'.cell? ⟨g2, 0, none⟩ = some (.slice A9 L2.length c9) ∧ Hid (Kept w w' g g2 L2 fp3 fp4 b 1 x1 x2 x3 x4))
                (first | exact S7 | exact S6 | exact S5 | exact S0)
                (first
                | (go_at_call 15
                   refine (mlen S0.2.2.2.2.out.1.m).mono ?_
                   rintro e Wl ⟨rfl, rfl⟩)
                | (go_at_call 17
                   refine (keysS S0 HN.out).mono ?_
                   rintro e W5 ⟨A5, n5, c5, rfl, e5, g5, r5, m5, S5⟩
                   have H5 := Lib.hid (And.intro e5 (And.intro g5 (And.intro r5 m5)))
                   clear e5 g5 r5 m5)
                | (go_at_call 18
                   refine (rkeysS S5 HN.out).mono ?_
                   rintro e W6 ⟨A6, n6, c6, rfl, e6, g6, r6, m6, S6⟩
                   have H6 := Lib.hid (And.intro e6 (And.intro g6 (And.intro r6 m6)))
                   clear e6 g6 r6 m6)
                | (go_at_call 16
                   refine (sameS HN.out H5.out.1 H5.out.2.1 (Kd.C_below H5.out.2.2.1 H6.out.2.2.2.bel) H6.out.1 H6.out.2.1 H6.out.2.2.1).mono ?_
                   rintro e W7 ⟨rfl, m7⟩
                   have S7 := S6.mod m7
                   clear m7))
              have hw : IntKind.i64.wrap ((j : Int) + 1) = ((j + 1 : Nat) : Int) := by unfold IntKind.wrap; simp [IntKind.signed, IntKind.bits]; omega
              go_wp2
              go_roundg (l.length - (j + 1))
              case measure => omega
              case rel => exact ⟨j + 1, L2, fp3, fp4, by omega, rfl, by rw [show ((j + 1 : Nat) : Int) = (j : Int) + 1 by omega], HS.out.2, by omega, S7.2.2.2.2.out.1⟩
          · go_wp2_with fail
            generalize wr.alloc (.cells #[.int .i64 x0, .int .i64 x1, .int .i64 x2, .string x3, .string x4] 31) = V at *
            generalize hb : wr.heap.size = b at *
            have HS : Hid (Kept w V g g2 L fp fp2 b x0 x1 x2 x3 x4 ∧ L.length ≤ j + 1) := Lib.hid ⟨⟨HB.out.1, HB.out.2.2.2.1⟩, by have := HT.out.2; omega⟩
            have hc3 : V.cell? ⟨b, 3, none⟩ = some (.string x3) := (blk_cell HS.out.1.2 3).trans rfl
            go_wp2_with fail
            refine (mget x3 HS.out.1.1.m).mono ?_
            rintro e V3 ⟨rfl, rfl⟩
            cases hq : lget L x3 with
            | none =>
              have HQ := Lib.hid hq
              clear hq
              simp only [getEnd]
              go_wp2_with fail
              refine (rget_calls x3 HS.out.1.1.r (by have := HS.out.2; omega)).mono ?_
              rintro e V4 ⟨rfl, m4⟩
              rw [HQ.out]
              simp only [getEnd]
              obtain ⟨A9, c9, hsee⟩ := (HS.out.1.mod m4).sees
              have S0 := hsee V4.drew ((Mod.refl V4 []).drew)
              have HN : Hid (L.length ≤ 1000000000) := Lib.hid (by have := HS.out.2; omega)
              clear m4 hsee hc3
              go_upto_region 17 with fail
              go_region_held3 (fun w' => w'.cell? ⟨b, 2, none⟩ = some (.int .i64 x2) ∧ w'.cell? ⟨b, 3, none⟩ = some (.string x3) ∧ w'.cell? ⟨b, 4, none⟩ = some (.string x4) ∧ w'.cell? ⟨g2, 0, none⟩ = some (.slice A9 L.length c9) ∧ Hid (Kept w w' g g2 L fp fp2 b x0 x1 x2 x3 x4))
                (first | exact S7 | exact S6 | exact S5 | exact S0)
                (first
                | (go_at_call 15
                   refine (mlen S0.2.2.2.2.out.1.m).mono ?_
                   rintro e Wl ⟨rfl, rfl⟩)
                | (go_at_call 17
                   refine (keysS S0 HN.out).mono ?_
                   rintro e W5 ⟨A5, n5, c5, rfl, e5, g5, r5, m5, S5⟩
                   have H5 := Lib.hid (And.intro e5 (And.intro g5 (And.intro r5 m5)))
                   clear e5 g5 r5 m5)
                | (go_at_call 18
                   refine (rkeysS S5 HN.out).mono ?_
                   rintro e W6 ⟨A6, n6, c6, rfl, e6, g6, r6, m6, S6⟩
                   have H6 := Lib.hid (And.intro e6 (And.intro g6 (And.intro r6 m6)))
                   clear e6 g6 r6 m6)
                | (go_at_call 16
                   refine (sameS HN.out H5.out.1 H5.out.2.1 (Kd.C_below H5.out.2.2.1 H6.out.2.2.2.bel) H6.out.1 H6.out.2.1 H6.out.2.2.1).mono ?_
                   rintro e W7 ⟨rfl, m7⟩
                   have S7 := S6.mod m7
                   clear m7))
              have hw : IntKind.i64.wrap ((j : Int) + 1) = ((j + 1 : Nat) : Int) := by unfold IntKind.wrap; simp [IntKind.signed, IntKind.bits]; omega
              go_wp2
              go_roundg (l.length - (j + 1))
              case measure => omega
              case rel => exact ⟨j + 1, L, fp, fp2, by omega, rfl, by rw [show ((j + 1 : Nat) : Int) = (j : Int) + 1 by omega], HS.out.2, by omega, S7.2.2.2.2.out.1⟩
            | some y =>
              have HQ := Lib.hid hq
              clear hq
              simp only [getEnd]
              go_wp2_with fail
              refine (rget_calls x3 HS.out.1.1.r (by have := HS.out.2; omega)).mono ?_
              rintro e V4 ⟨rfl, m4⟩
              rw [HQ.out]
              simp only [getEnd]
              obtain ⟨A9, c9, hsee⟩ := (HS.out.1.mod m4).sees
              have S0 := hsee V4.drew ((Mod.refl V4 []).drew)
              have HN : Hid (L.length ≤ 1000000000) := Lib.hid (by have := HS.out.2; omega)
              clear m4 hsee hc3
              go_upto_region 17 with fail
              go_region_held3 (fun w' => w'.cell? ⟨b, 2, none⟩ = some (.int .i64 x2) ∧ w'.cell? ⟨b, 3, none⟩ = some (.string x3) ∧ w'.cell? ⟨b, 4, none⟩ = some (.string x4) ∧ w'.cell? ⟨g2, 0, none⟩ = some (.slice A9 L.length c9) ∧ Hid (Kept w w' g g2 L fp fp2 b x0 x1 x2 x3 x4))
                (first | exact S7 | exact S6 | exact S5 | exact S0)
                (first
                | (go_at_call 15
                   refine (mlen S0.2.2.2.2.out.1.m).mono ?_
                   rintro e Wl ⟨rfl, rfl⟩)
                | (go_at_call 17
                   refine (keysS S0 HN.out).mono ?_
                   rintro e W5 ⟨A5, n5, c5, rfl, e5, g5, r5, m5, S5⟩
                   have H5 := Lib.hid (And.intro e5 (And.intro g5 (And.intro r5 m5)))
                   clear e5 g5 r5 m5)
                | (go_at_call 18
                   refine (rkeysS S5 HN.out).mono ?_
                   rintro e W6 ⟨A6, n6, c6, rfl, e6, g6, r6, m6, S6⟩
                   have H6 := Lib.hid (And.intro e6 (And.intro g6 (And.intro r6 m6)))
                   clear e6 g6 r6 m6)
                | (go_at_call 16
                   refine (sameS HN.out H5.out.1 H5.out.2.1 (Kd.C_below H5.out.2.2.1 H6.out.2.2.2.bel) H6.out.1 H6.out.2.1 H6.out.2.2.1).mono ?_
                   rintro e W7 ⟨rfl, m7⟩
                   have S7 := S6.mod m7
                   clear m7))
              have hw : IntKind.i64.wrap ((j : Int) + 1) = ((j + 1 : Nat) : Int) := by unfold IntKind.wrap; simp [IntKind.signed, IntKind.bits]; omega
              go_wp2
              go_roundg (l.length - (j + 1))
              case measure => omega
              case rel => exact ⟨j + 1, L, fp, fp2, by omega, rfl, by rw [show ((j + 1 : Nat) : Int) = (j : Int) + 1 by omega], HS.out.2, by omega, S7.2.2.2.2.out.1⟩
    · have hz : ¬ ((j : Int) < (l.length : Int)) := by omega
      have HE : Hid (St w wr g g2 L fp fp2 ∧ L.length ≤ 1000000) := Lib.hid ⟨HT.out.1, by have := HT.out.2; omega⟩
      go_wp2_with fail
      obtain ⟨K, hK⟩ : ∃ K, (rangeL L ⟨#[]⟩ ⟨#[]⟩).take (1000 : Int).toNat = K := ⟨_, rfl⟩
      have hKn : K.length ≤ 100000000 := by rw [← hK]; exact Nat.le_trans rows_le (by have := HE.out.2; omega)
      have HK := Lib.hid (And.intro hK hKn)
      clear hK hKn
      refine (mkeys (W := wr) ⟨#[]⟩ ⟨#[]⟩ 1000 HE.out.1.m (by have := HE.out.2; omega)).mono ?_
      rw [HK.out.1]
      rintro e W10 ⟨v10, rfl, o10, b10, m10⟩
      obtain ⟨A10, c10, rfl, g10, r10⟩ := own_C o10
      have H10 : Hid (Kd.string.C W10 A10 K.length K ∧ K.length ≤ c10 ∧ St w W10 g g2 L fp fp2) := Lib.hid ⟨r10, g10, HE.out.1.mod m10 (by simp)⟩
      clear o10 b10 m10 g10 r10
      go_wp2_with fail
      refine (rkeys_calls ⟨#[]⟩ ⟨#[]⟩ 1000 H10.out.2.2.r (by have := HE.out.2; omega)).mono ?_
      rw [HK.out.1]
      rintro e W11 ⟨v11, rfl, o11, b11, m11⟩
      obtain ⟨A11, c11, rfl, g11, r11⟩ := own_C o11
      have H11 : Hid (Kd.string.C W11 A11 K.length K ∧ K.length ≤ c11 ∧ Kd.string.C W11 A10 K.length K ∧ Mod w W11 []) := Lib.hid ⟨r11, g11, Kd.C_below H10.out.1 m11.bel, H10.out.2.2.k.trans m11 (by simp)⟩
      clear o11 b11 m11 g11 r11
      go_wp2_with fail
      refine (same_calls (by have := HK.out.2; omega) H11.out.2.2.1 H10.out.2.1 H11.out.1 H11.out.2.1).mono ?_
      rintro e W12 ⟨rfl, m12⟩
      have H12 : Hid (Mod w W12 []) := Lib.hid (H11.out.2.2.2.trans m12 (by simp))
      clear m12
      go_wp2
      all_goals go_ret
      all_goals exact ⟨rfl, H12.out⟩
def dovecotelaw08_OrderRuns.f (k : Nat) (l : List S31) : Option Bool := some true
theorem dovecotelaw08_OrderRuns.calls (k : Nat) (A0 : Option Addr) (c0 : Nat) (l0 : List S31) (r : Bool) (w : World) (hr0 : Kd.C k31 w A0 l0.length l0) (hc0 : l0.length ≤ c0) (h : dovecotelaw08_OrderRuns.f k l0 = some r) :
    Calls Try.prog 3 #[.slice A0 l0.length c0] w fun e w' => e = .returned (.bool r) ∧ Below w.heap.size w w' := by
  obtain rfl : true = r := Option.some.inj h
  exact (runs_calls A0 c0 l0 w hr0 hc0).mono fun e w' ⟨h1, h2⟩ => ⟨h1, h2.bel⟩
end Go.Proofs.Ythfaacheolhjnaa.Ord
