/- The law PostRuns walked by hand; a seat's own text. -/
import Derived.Test.YtgkpljlcdopalaaPostBase
namespace Go.Proofs.Ytgkpljlcdopalaa.Post
open Go.RowKit Go.Proofs.YtgkpljlcdopalaaW.PrintWords
set_option linter.unusedVariables false
set_option linter.unusedSimpArgs false
/-- What a law's call holds of its own post. -/
def Own (w W : World) (T : Nat) (g : Nat) (l : List ByteArray) (fp : List Nat) : Prop := PF T W g l fp ∧ (∀ x ∈ fp, w.heap.size ≤ x) ∧ Mod w W []
theorem Own.step {w W W' : World} {T g : Nat} {l l' : List ByteArray} {fp : List Nat} (h : Own w W T g l fp) (s : ∃ fp', PF T W' g l' fp' ∧ Mod W W' fp ∧ ∀ y ∈ fp', y ∈ fp ∨ W.heap.size ≤ y) : ∃ fp', Own w W' T g l' fp' := by
  obtain ⟨fp', f, m, b⟩ := s
  refine ⟨fp', f, fun x hx => ?_, h.2.2.trans m (fun y hy => .inr (h.2.1 y hy))⟩
  rcases b x hx with hh | hh
  · exact h.2.1 x hh
  · have := h.2.2.size; omega
theorem Own.mod {w W W' : World} {T g : Nat} {l : List ByteArray} {fp : List Nat} (h : Own w W T g l fp) (m : Mod W W' []) : Own w W' T g l fp := ⟨h.1.mod m (by simp), h.2.1, h.2.2.trans m (by simp)⟩
def AwkP (w : World) (e : Ending) (w' : World) : Prop := e = .returned (.bool true) ∧ Mod w w' []
set_option maxHeartbeats 1000000 in
theorem awake_calls {w : World} : Calls Try.prog 17 #[] w (AwkP w) := by
  go_enter Try.func17, Try.ntmps17
  go_wp2_with fail
  refine new_calls.mono ?_
  rintro e W1 ⟨rfl, f1, m1⟩
  have hO : Own w W1 70 w.heap.size [] [w.heap.size] := ⟨f1, by simp, m1⟩
  have O1 := Lib.hid hO
  clear f1 m1 hO
  generalize w.heap.size = g at *
  go_wp2_with fail
  refine (send_calls ⟨#[97]⟩ O1.out.1 (by simp)).mono ?_
  rintro e W2 ⟨rfl, h2⟩
  obtain ⟨fp2, hO2⟩ := O1.out.step h2
  have O2 : Hid (Own w W2 70 g [⟨#[97]⟩] fp2) := Lib.hid hO2
  clear h2 hO2
  go_wp2_with fail
  refine (send_calls ⟨#[98]⟩ O2.out.1 (by simp)).mono ?_
  rintro e W3 ⟨rfl, h3⟩
  obtain ⟨fp3, hO3⟩ := O2.out.step h3
  have O3 : Hid (Own w W3 70 g [⟨#[97]⟩, ⟨#[98]⟩] fp3) := Lib.hid hO3
  clear h3 hO3
  go_wp2_with fail
  refine (take_calls (-1) O3.out.1 (by simp)).mono ?_
  rintro e W4 ⟨rfl, h4⟩
  obtain ⟨fp4, hO4⟩ := O3.out.step h4
  have O4 : Hid (Own w W4 70 g [⟨#[97]⟩] fp4) := Lib.hid hO4
  have e4 : pat (-1) [⟨#[97]⟩, ⟨#[98]⟩] = ⟨#[98]⟩ := rfl
  rw [e4]
  clear h4 hO4 e4
  go_wp2_with fail
  refine (all_calls O4.out.1 (by simp)).mono ?_
  rintro e W5 ⟨A5, n5, c5, rfl, rfl, _, _, m5⟩
  have H5 := Lib.hid (O4.out.2.2.trans m5 (by simp))
  clear m5
  go_wp2
  go_ret
  exact ⟨rfl, H5.out⟩
theorem str_cells {w : World} {A : Option Addr} {l : List ByteArray} (h : Kd.C Kd.string w A l.length l) (j : Nat) (hj : j < l.length) : ∃ ad, A = some ad ∧ w.cell? (ad.add j) = some (.string l[j]) := by
  obtain ⟨ad, h1, h2⟩ := Kd.at_string h j (by omega) (by omega)
  refine ⟨ad, h1, ?_⟩
  have e : rdOf ByteArray.empty l (j : Int) = l[j] := by
    unfold rdOf
    rw [Int.toNat_natCast, List.getD_eq_getElem?_getD, List.getElem?_eq_getElem hj]; rfl
  rw [Int.toNat_natCast, e] at h2
  exact h2
/-! PostRuns -/
structure S45 where
  f0 : Int
  f1 : Int
  f2 : ByteArray
def k45 : Kd S45 := Kd.iso (Kd.pair (Kd.int .i64) (Kd.pair (Kd.int .i64) Kd.string)) (fun x : S45 => (x.f0, (x.f1, x.f2)))
theorem k45_open {w : World} {x : S45} {cs : List Value} (h : k45.K w x cs) : cs = [.int .i64 x.f0, .int .i64 x.f1, .string x.f2] := by
  obtain ⟨_, _, rfl, rfl, ⟨_, _, rfl, rfl, rfl⟩⟩ := h
  exact rfl
theorem add_add (ad : Addr) (n i : Nat) (hi : 0 < i) : ad.add (n + i) = ⟨(ad.add n).block, (ad.add n).off + i, none⟩ := by
  unfold Addr.add
  rw [if_neg (by omega)]
  split
  · subst n; simp
  · simp; omega
theorem act_cells {w : World} {A : Option Addr} {l : List S45} (h : Kd.C k45 w A l.length l) (j : Nat) (hj : j < l.length) : ∃ ad, A = some ad ∧ w.cell? (ad.add (j * 3)) = some (.int .i64 l[j].f0) ∧ w.cell? ⟨(ad.add (j * 3)).block, (ad.add (j * 3)).off + 1, none⟩ = some (.int .i64 l[j].f1) ∧ w.cell? ⟨(ad.add (j * 3)).block, (ad.add (j * 3)).off + 2, none⟩ = some (.string l[j].f2) := by
  obtain ⟨ad, hA, hc⟩ := h.2.2 (by omega)
  obtain ⟨c, h1, h2, h3⟩ := hc j _ (List.getElem?_eq_getElem hj)
  have e := k45_open h2
  subst e
  refine ⟨ad, hA, h3 0 _ rfl, ?_, ?_⟩
  · rw [← add_add ad (j * 3) 1 (by omega)]; exact h3 1 _ rfl
  · rw [← add_add ad (j * 3) 2 (by omega)]; exact h3 2 _ rfl
/-- Both posts: the same letters, apart from one another, the call's own. -/
structure St (w W : World) (g g2 : Nat) (l : List ByteArray) (fp fp2 : List Nat) : Prop where
  p : PF 70 W g l fp
  r : PF 43 W g2 l fp2
  d : ∀ x ∈ fp, x ∉ fp2
  d1 : ∀ x ∈ fp, w.heap.size ≤ x
  d2 : ∀ x ∈ fp2, w.heap.size ≤ x
  k : Mod w W []
  s : l.length ≤ 200
theorem St.mod {w W W' : World} {g g2 : Nat} {l : List ByteArray} {fp fp2 fp3 : List Nat} (h : St w W g g2 l fp fp2) (m : Mod W W' fp3) (h1 : ∀ x ∈ fp3, x ∉ fp ∧ x ∉ fp2 ∧ w.heap.size ≤ x) : St w W' g g2 l fp fp2 :=
  ⟨h.p.mod m (fun x hx hy => (h1 x hy).1 hx), h.r.mod m (fun x hx hy => (h1 x hy).2.1 hx), h.d, h.d1, h.d2, h.k.trans m (fun x hx => .inr (h1 x hx).2.2), h.s⟩
theorem St.step {w W W' W2 : World} {g g2 : Nat} {l l' : List ByteArray} {fp fp2 fp3 fp4 : List Nat} (h : St w W g g2 l fp fp2) (h1 : PF 70 W' g l' fp3) (m1 : Mod W W' fp) (b1 : ∀ y ∈ fp3, y ∈ fp ∨ W.heap.size ≤ y)
    (h2 : PF 43 W2 g2 l' fp4) (m2 : Mod W' W2 fp2) (b2 : ∀ y ∈ fp4, y ∈ fp2 ∨ W'.heap.size ≤ y) (hs : l'.length ≤ 200) : St w W2 g g2 l' fp3 fp4 := by
  have l1 := h.p.lt
  have l2 := h.r.lt
  have l3 := h1.lt
  have sz := m1.size
  have dd : ∀ y ∈ fp3, y ∉ fp2 := fun y hy hz => by
    rcases b1 y hy with hh | hh
    · exact h.d y hh hz
    · have := l2 y hz; omega
  refine ⟨h1.mod m2 dd, h2, fun y hy hz => ?_, fun y hy => ?_, fun y hy => ?_, ?_, hs⟩
  · rcases b2 y hz with hh | hh
    · exact dd y hy hh
    · have := l3 y hy; omega
  · rcases b1 y hy with hh | hh
    · exact h.d1 y hh
    · have := h.k.size; omega
  · rcases b2 y hy with hh | hh
    · exact h.d2 y hh
    · have := h.k.size; omega
  · exact (h.k.trans m1 (fun y hy => .inr (h.d1 y hy))).trans m2 (fun y hy => .inr (h.d2 y hy))
theorem St.ref {w W W' : World} {g g2 : Nat} {l : List ByteArray} {fp fp2 : List Nat} (h : St w W g g2 l fp fp2) (m1 : Mod W W' fp) : PF 43 W' g2 l fp2 := h.r.mod m1 (fun x hx hy => h.d x hy hx)
theorem lsend_le {l : List ByteArray} (s : ByteArray) (h : l.length ≤ 200) : (if l.length < 200 then l ++ [s] else l).length ≤ 200 := by
  split
  · simp; omega
  · exact h
theorem ldouble_le {l : List ByteArray} (raw : Int) (h : l.length ≤ 200) : (ldouble raw l).length ≤ 200 := by
  unfold ldouble
  split
  · simp; omega
  · exact h
/-- What a round keeps: the posts, and the act's cells. -/
def Kept (w W : World) (g g2 : Nat) (l : List ByteArray) (fp fp2 : List Nat) (b : Nat) (x0 x1 : Int) (x2 : ByteArray) : Prop :=
  St w W g g2 l fp fp2 ∧ W.heap[b]? = some (.cells #[.int .i64 x0, .int .i64 x1, .string x2] 45 (0, 0)) ∧ b ∉ fp ∧ b ∉ fp2
theorem Kept.mod {w W W' : World} {g g2 : Nat} {l : List ByteArray} {fp fp2 : List Nat} {b : Nat} {x0 x1 : Int} {x2 : ByteArray} (h : Kept w W g g2 l fp fp2 b x0 x1 x2) (m : Mod W W' []) : Kept w W' g g2 l fp fp2 b x0 x1 x2 :=
  ⟨h.1.mod m (by simp), m.at_ h.2.1 (by simp), h.2.2⟩
theorem same_l (l : List ByteArray) (hl : l.length ≤ 1000000000000) : ∀ (d i k : Nat), i + d = l.length → d < k → PPostRuns.dovecoteref03_Same.l0 k l l i = some true := by
  intro d
  induction d with
  | zero =>
    intro i k h hk
    obtain ⟨k, rfl⟩ : ∃ m, k = m + 1 := ⟨k - 1, by omega⟩
    simp only [PPostRuns.dovecoteref03_Same.l0]
    rw [if_neg (by omega)]
  | succ d ih =>
    intro i k h hk
    obtain ⟨k, rfl⟩ : ∃ m, k = m + 1 := ⟨k - 1, by omega⟩
    simp only [PPostRuns.dovecoteref03_Same.l0]
    have hw : wrap64 ((i : Int) + 1) = ((i + 1 : Nat) : Int) := by unfold wrap64; omega
    rw [if_pos (by omega), if_pos (by omega), if_pos (by omega), if_pos trivial, hw]
    exact ih (i + 1) k (by omega) (by omega)
theorem same_calls {W : World} {A B : Option Addr} {n1 n2 c1 c2 : Nat} {l : List ByteArray} (hl : l.length ≤ 1000000000000) (e1 : n1 = l.length) (g1 : l.length ≤ c1) (h1 : Kd.C Kd.string W A l.length l) (e2 : n2 = l.length) (g2 : l.length ≤ c2) (h2 : Kd.C Kd.string W B l.length l) :
    Calls Try.prog 26 #[.slice A n1 c1, .slice B n2 c2] W fun e W' => e = .returned (.bool true) ∧ Mod W W' [] := by
  subst e1
  subst e2
  refine (PPostRuns.dovecoteref03_Same.calls (l.length + 1) A c1 l B c2 l true W h1 g1 h2 g2 ?_).mono (fun e W' h => ⟨h.1, Mod.of_drawn h.2⟩)
  unfold PPostRuns.dovecoteref03_Same.f
  rw [if_pos rfl]
  exact same_l l hl l.length 0 _ (by omega) (by omega)
/-- The cells that the last region of a round reads, and what lies behind them. -/
def Sees (w : World) (g g2 : Nat) (l : List ByteArray) (fp fp2 : List Nat) (A : Option Addr) (c : Nat) (W : World) : Prop :=
  W.cell? ⟨g2, 0, none⟩ = some (.slice A l.length c) ∧ Hid (l.length ≤ c ∧ Kd.C Kd.string W A l.length l ∧ St w W g g2 l fp fp2)
theorem St.sees {w W : World} {g g2 : Nat} {l : List ByteArray} {fp fp2 : List Nat} (h : St w W g g2 l fp fp2) : ∃ A c, ∀ W', Mod W W' [] → Sees w g g2 l fp fp2 A c W' := by
  obtain ⟨A, c, h1, h2, h3, h4, h5⟩ := h.r.cell
  have hC : Kd.C Kd.string W A l.length l := by
    obtain ⟨A', c', e, _, hC⟩ := h2.C
    injection e with e1 _ _
    rw [e1]; exact hC
  exact ⟨A, c, fun W' m => ⟨(blk_cell (m.at_ h1 (by simp)) 0).trans rfl, Lib.hid ⟨h5, Kd.C_below hC m.bel, h.mod m (by simp)⟩⟩⟩
theorem Sees.mod {w W W' : World} {g g2 : Nat} {l : List ByteArray} {fp fp2 : List Nat} {A : Option Addr} {c : Nat} (h : Sees w g g2 l fp fp2 A c W) (m : Mod W W' []) : Sees w g g2 l fp fp2 A c W' := by
  obtain ⟨h5, hC, hs⟩ := h.2.out
  obtain ⟨A', c', h1, _, _, _, _⟩ := hs.r.cell
  have hc : W.cell? ⟨g2, 0, none⟩ = some (.slice A' l.length c') := (blk_cell h1 0).trans rfl
  rw [h.1] at hc
  injection hc with hc
  injection hc with e1 _ e3
  subst e1
  subst e3
  exact ⟨(blk_cell (m.at_ h1 (by simp)) 0).trans rfl, Lib.hid ⟨h5, Kd.C_below hC m.bel, hs.mod m (by simp)⟩⟩
set_option maxRecDepth 100000 in
set_option maxHeartbeats 4000000 in
theorem runs_calls (A : Option Addr) (c : Nat) (l : List S45) (w : World) (hr : Kd.C k45 w A l.length l) (hc : l.length ≤ c) :
    Calls Try.prog 5 #[.slice A l.length c] w (AwkP w) := by
  have HR := Lib.hid (And.intro hr hc)
  clear hr hc
  go_enter Try.func5, Try.ntmps5
  go_wp2_with fail
  refine awake_calls.mono ?_
  rintro e W1 ⟨rfl, m1⟩
  have H1 := Lib.hid m1
  clear m1
  go_wp2_with fail
  refine new_calls.mono ?_
  rintro e W2 ⟨rfl, f2, m2⟩
  generalize hg : W1.heap.size = g at f2 ⊢
  have hgs : w.heap.size ≤ g := by rw [← hg]; exact H1.out.size
  have hS : St w (W2.alloc (.cells #[.slice none 0 0] 43)) g W2.heap.size [] [g] [W2.heap.size] := by
    have hl := f2.lt g (by simp)
    have m3 : Mod w W2 [] := H1.out.trans m2 (by simp)
    have ma := (Mod.refl W2 []).alloc (.cells #[.slice none 0 0] 43)
    refine ⟨f2.mod ma (by simp), ⟨.slice none 0 0, blk_new _ _, Row.nil _ _ _, by simp [ownList], by simp [ownList]⟩, fun x hx hy => ?_, fun x hx => ?_, fun x hx => ?_, m3.trans ma (by simp), by simp⟩
    · rw [List.mem_singleton] at hx hy; omega
    · rw [List.mem_singleton] at hx; omega
    · rw [List.mem_singleton] at hx; have := m3.size; omega
  have HS := Lib.hid hS
  clear hS f2 m2 hg hgs
  go_wp2_with fail
  generalize W2.heap.size = g2 at *
  go_loopg [21] l.length (fun k i wr => ∃ (j : Nat) (L : List ByteArray) (fp fp2 : List Nat), j ≤ l.length ∧ k = l.length - j ∧ i = .int .i64 j ∧ j ≤ 600 ∧ St w wr g g2 L fp fp2)
  case atStart => exact ⟨0, [], [g], [g2], Nat.zero_le _, rfl, rfl, by omega, HS.out⟩
  case round =>
    obtain ⟨j, L, fp, fp2, hj, rfl, rfl, hj3, hst⟩ := hrel
    have HT := Lib.hid hst
    clear hst
    by_cases hjl : j < l.length
    · obtain ⟨ad, rfl, a0, a1, a2⟩ := act_cells (Kd.C_below HR.out.1 HT.out.k.bel) j hjl
      have hjz : (j : Int) < (l.length : Int) := by omega
      by_cases h3 : j = 600
      · have e5 : ad.add (j * 3) = ⟨ad.block, ad.off + 1800, none⟩ := by rw [h3]; simp [Addr.add]
        rw [e5] at a0 a1 a2
        dsimp only at a0 a1 a2
        have h3z : (j : Int) = 600 := by omega
        clear e5
        have HE : Hid (Mod w (wr.alloc (.cells #[.int .i64 l[j].f0, .int .i64 l[j].f1, .string l[j].f2] 45)) []) := Lib.hid (HT.out.k.alloc _)
        generalize l[j].f0 = x0 at *
        generalize l[j].f1 = x1 at *
        generalize l[j].f2 = x2 at *
        go_wp2_with fail
        generalize wr.alloc (.cells #[.int .i64 x0, .int .i64 x1, .string x2] 45) = V at *
        refine (take_nil 0).mono ?_
        rintro e W10 ⟨rfl, rfl⟩
        go_wp2_with fail
        refine (send_nil ⟨#[120]⟩).mono ?_
        rintro e W11 ⟨rfl, rfl⟩
        go_wp2_with fail
        refine (lose_nil 0).mono ?_
        rintro e W12 ⟨rfl, rfl⟩
        go_wp2_with fail
        refine (double_nil 0).mono ?_
        rintro e W13 ⟨rfl, rfl⟩
        go_wp2_with fail
        refine all_nil.mono ?_
        rintro e W14 ⟨rfl, rfl⟩
        go_wp2
        go_ret
        exact ⟨rfl, HE.out⟩
      · have h3z : ¬ ((j : Int) = 600) := by omega
        have h3b : ((j : Int) == 600) = false := by simpa using h3z
        generalize l[j].f0 = x0 at *
        generalize l[j].f1 = x1 at *
        generalize l[j].f2 = x2 at *
        have hK : Kept w (wr.alloc (.cells #[.int .i64 x0, .int .i64 x1, .string x2] 45)) g g2 L fp fp2 wr.heap.size x0 x1 x2 := ⟨HT.out.mod ((Mod.refl wr []).alloc _) (by simp), blk_new _ _, fun hy => by have := HT.out.p.lt _ hy; omega, fun hy => by have := HT.out.r.lt _ hy; omega⟩
        have HB := Lib.hid hK
        clear hK
        by_cases c0 : x0 = 0
        · subst c0
          go_wp2_with fail
          generalize wr.alloc (.cells #[.int .i64 0, .int .i64 x1, .string x2] 45) = V at *
          generalize hb : wr.heap.size = b at *
          have T0 : V.drew.cell? ⟨b, 2, none⟩ = some (.string x2) := (blk_cell HB.out.2.1 2).trans rfl
          have HD := Lib.hid (HB.out.mod ((Mod.refl V []).drew))
          go_region_held3 (fun w' => w'.cell? ⟨b, 2, none⟩ = some (.string x2)) (first | exact T2 | exact T1 | exact T0)
            (first
            | (go_at_call 19
               refine (send_calls x2 HD.out.1.p (by have := HD.out.1.s; omega)).mono ?_
               rintro e V1 ⟨rfl, fp3, f3, m3, b3⟩
               have hb1 := m3.at_ HD.out.2.1 HD.out.2.2.1
               have T1 : V1.cell? ⟨b, 2, none⟩ = some (.string x2) := (blk_cell hb1 2).trans rfl
               have H3 := Lib.hid (And.intro f3 (And.intro m3 (And.intro b3 hb1)))
               clear f3 m3 b3 hb1)
            | (go_at_call 21
               refine (rsend_calls x2 (HD.out.1.ref H3.out.2.1) (by have := HD.out.1.s; omega)).mono ?_
               rintro e V2 ⟨rfl, fp4, f4, m4, b4⟩
               have hb2 := m4.at_ H3.out.2.2.2 HD.out.2.2.2
               have T2 : V2.cell? ⟨b, 2, none⟩ = some (.string x2) := (blk_cell hb2 2).trans rfl
               have H4 := Lib.hid (And.intro f4 (And.intro m4 b4))
               clear f4 m4 b4 hb2))
          have HS : Hid (St w V2 g g2 (if L.length < 200 then L ++ [x2] else L) fp3 fp4) := Lib.hid (HD.out.1.step H3.out.1 H3.out.2.1 H3.out.2.2.1 H4.out.1 H4.out.2.1 H4.out.2.2 (lsend_le x2 HD.out.1.s))
          clear T0 T1 T2
          generalize (if L.length < 200 then L ++ [x2] else L) = L2 at *
          obtain ⟨A9, c9, hsee⟩ := HS.out.sees
          have S0 := hsee V2.drew ((Mod.refl V2 []).drew)
          have HN : Hid (L2.length ≤ 200) := Lib.hid HS.out.s
          clear hsee
          go_upto_region 22 with fail
          go_region_held3 (fun w' => w'.cell? ⟨g2, 0, none⟩ = some (.slice A9 L2.length c9) ∧ Hid (L2.length ≤ c9 ∧ Kd.C Kd.string w' A9 L2.length L2 ∧ St w w' g g2 L2 fp3 fp4))
            (first | exact S7 | exact S5 | exact S0)
            (first
            | (go_at_call 27
               refine (all_calls S0.2.out.2.2.p (by have := HN.out; omega)).mono ?_
               rintro e W5 ⟨A5, n5, c5, rfl, e5, g5, r5, m5⟩
               have S5 := S0.mod m5
               have H5 := Lib.hid (And.intro e5 (And.intro g5 (And.intro r5 m5)))
               clear e5 g5 r5 m5)
            | (go_at_call 26
               refine (same_calls (by have := HN.out; omega) H5.out.1 H5.out.2.1 H5.out.2.2.1 rfl S5.2.out.1 S5.2.out.2.1).mono ?_
               rintro e W7 ⟨rfl, m7⟩
               have S7 := S5.mod m7
               clear m7))
          have hw : IntKind.i64.wrap ((j : Int) + 1) = ((j + 1 : Nat) : Int) := by unfold IntKind.wrap; simp [IntKind.signed, IntKind.bits]; omega
          go_wp2
          go_roundg (l.length - (j + 1))
          case measure => omega
          case rel => exact ⟨j + 1, L2, fp3, fp4, by omega, rfl, by rw [show ((j + 1 : Nat) : Int) = (j : Int) + 1 by omega], by omega, S7.2.out.2.2⟩
        · by_cases c1 : x0 = 1
          · subst c1
            go_wp2_with fail
            generalize wr.alloc (.cells #[.int .i64 1, .int .i64 x1, .string x2] 45) = V at *
            generalize hb : wr.heap.size = b at *
            refine (take_calls x1 HB.out.1.p (by have := HB.out.1.s; omega)).mono ?_
            rintro e V1 ⟨rfl, fp3, f3, m3, b3⟩
            have hb1 := m3.at_ HB.out.2.1 HB.out.2.2.1
            have T1 : V1.cell? ⟨b, 1, none⟩ = some (.int .i64 x1) := (blk_cell hb1 1).trans rfl
            have H3 := Lib.hid (And.intro f3 (And.intro m3 (And.intro b3 hb1)))
            clear f3 m3 b3 hb1
            go_wp2_with fail
            refine (rtake_calls x1 (HB.out.1.ref H3.out.2.1) (by have := HB.out.1.s; omega)).mono ?_
            rintro e V2 ⟨rfl, fp4, f4, m4, b4⟩
            have HS : Hid (St w V2 g g2 (pcut x1 L) fp3 fp4) := Lib.hid (HB.out.1.step H3.out.1 H3.out.2.1 H3.out.2.2.1 f4 m4 b4 (Nat.le_trans pcut_le HB.out.1.s))
            clear T1 f4 m4 b4
            generalize pat x1 L = s at *
            generalize decide (0 < L.length) = d at *
            generalize pcut x1 L = L2 at *
            obtain ⟨A9, c9, hsee⟩ := HS.out.sees
            have S0 := hsee V2.drew ((Mod.refl V2 []).drew)
            have HN : Hid (L2.length ≤ 200) := Lib.hid HS.out.s
            clear hsee
            go_upto_region 22 with fail
            go_region_held3 (fun w' => w'.cell? ⟨g2, 0, none⟩ = some (.slice A9 L2.length c9) ∧ Hid (L2.length ≤ c9 ∧ Kd.C Kd.string w' A9 L2.length L2 ∧ St w w' g g2 L2 fp3 fp4))
              (first | exact S7 | exact S5 | exact S0)
              (first
              | (go_at_call 27
                 refine (all_calls S0.2.out.2.2.p (by have := HN.out; omega)).mono ?_
                 rintro e W5 ⟨A5, n5, c5, rfl, e5, g5, r5, m5⟩
                 have S5 := S0.mod m5
                 have H5 := Lib.hid (And.intro e5 (And.intro g5 (And.intro r5 m5)))
                 clear e5 g5 r5 m5)
              | (go_at_call 26
                 refine (same_calls (by have := HN.out; omega) H5.out.1 H5.out.2.1 H5.out.2.2.1 rfl S5.2.out.1 S5.2.out.2.1).mono ?_
                 rintro e W7 ⟨rfl, m7⟩
                 have S7 := S5.mod m7
                 clear m7))
            have hw : IntKind.i64.wrap ((j : Int) + 1) = ((j + 1 : Nat) : Int) := by unfold IntKind.wrap; simp [IntKind.signed, IntKind.bits]; omega
            go_wp2
            go_roundg (l.length - (j + 1))
            case measure => omega
            case rel => exact ⟨j + 1, L2, fp3, fp4, by omega, rfl, by rw [show ((j + 1 : Nat) : Int) = (j : Int) + 1 by omega], by omega, S7.2.out.2.2⟩
          · by_cases c2 : x0 = 2
            · subst c2
              go_wp2_with fail
              generalize wr.alloc (.cells #[.int .i64 2, .int .i64 x1, .string x2] 45) = V at *
              generalize hb : wr.heap.size = b at *
              refine (lose_calls x1 HB.out.1.p (by have := HB.out.1.s; omega)).mono ?_
              rintro e V1 ⟨rfl, fp3, f3, m3, b3⟩
              have hb1 := m3.at_ HB.out.2.1 HB.out.2.2.1
              have T1 : V1.cell? ⟨b, 1, none⟩ = some (.int .i64 x1) := (blk_cell hb1 1).trans rfl
              have H3 := Lib.hid (And.intro f3 (And.intro m3 (And.intro b3 hb1)))
              clear f3 m3 b3 hb1
              go_wp2_with fail
              refine (rtake_calls x1 (HB.out.1.ref H3.out.2.1) (by have := HB.out.1.s; omega)).mono ?_
              rintro e V2 ⟨rfl, fp4, f4, m4, b4⟩
              have HS : Hid (St w V2 g g2 (pcut x1 L) fp3 fp4) := Lib.hid (HB.out.1.step H3.out.1 H3.out.2.1 H3.out.2.2.1 f4 m4 b4 (Nat.le_trans pcut_le HB.out.1.s))
              clear T1 f4 m4 b4
              generalize pat x1 L = s at *
              generalize decide (0 < L.length) = d at *
              generalize pcut x1 L = L2 at *
              obtain ⟨A9, c9, hsee⟩ := HS.out.sees
              have S0 := hsee V2.drew ((Mod.refl V2 []).drew)
              have HN : Hid (L2.length ≤ 200) := Lib.hid HS.out.s
              clear hsee
              go_upto_region 22 with fail
              go_region_held3 (fun w' => w'.cell? ⟨g2, 0, none⟩ = some (.slice A9 L2.length c9) ∧ Hid (L2.length ≤ c9 ∧ Kd.C Kd.string w' A9 L2.length L2 ∧ St w w' g g2 L2 fp3 fp4))
                (first | exact S7 | exact S5 | exact S0)
                (first
                | (go_at_call 27
                   refine (all_calls S0.2.out.2.2.p (by have := HN.out; omega)).mono ?_
                   rintro e W5 ⟨A5, n5, c5, rfl, e5, g5, r5, m5⟩
                   have S5 := S0.mod m5
                   have H5 := Lib.hid (And.intro e5 (And.intro g5 (And.intro r5 m5)))
                   clear e5 g5 r5 m5)
                | (go_at_call 26
                   refine (same_calls (by have := HN.out; omega) H5.out.1 H5.out.2.1 H5.out.2.2.1 rfl S5.2.out.1 S5.2.out.2.1).mono ?_
                   rintro e W7 ⟨rfl, m7⟩
                   have S7 := S5.mod m7
                   clear m7))
              have hw : IntKind.i64.wrap ((j : Int) + 1) = ((j + 1 : Nat) : Int) := by unfold IntKind.wrap; simp [IntKind.signed, IntKind.bits]; omega
              go_wp2
              go_roundg (l.length - (j + 1))
              case measure => omega
              case rel => exact ⟨j + 1, L2, fp3, fp4, by omega, rfl, by rw [show ((j + 1 : Nat) : Int) = (j : Int) + 1 by omega], by omega, S7.2.out.2.2⟩
            · by_cases c3 : x0 = 3
              · subst c3
                go_wp2_with fail
                generalize wr.alloc (.cells #[.int .i64 3, .int .i64 x1, .string x2] 45) = V at *
                generalize hb : wr.heap.size = b at *
                have T0 : V.drew.cell? ⟨b, 1, none⟩ = some (.int .i64 x1) := (blk_cell HB.out.2.1 1).trans rfl
                have HD := Lib.hid (HB.out.mod ((Mod.refl V []).drew))
                go_region_held3 (fun w' => w'.cell? ⟨b, 1, none⟩ = some (.int .i64 x1)) (first | exact T2 | exact T1 | exact T0)
                  (first
                  | (go_at_call 24
                     refine (double_calls x1 HD.out.1.p (by have := HD.out.1.s; omega)).mono ?_
                     rintro e V1 ⟨rfl, fp3, f3, m3, b3⟩
                     have hb1 := m3.at_ HD.out.2.1 HD.out.2.2.1
                     have T1 : V1.cell? ⟨b, 1, none⟩ = some (.int .i64 x1) := (blk_cell hb1 1).trans rfl
                     have H3 := Lib.hid (And.intro f3 (And.intro m3 (And.intro b3 hb1)))
                     clear f3 m3 b3 hb1)
                  | (go_at_call 25
                     refine (rdouble_calls x1 (HD.out.1.ref H3.out.2.1) (by have := HD.out.1.s; omega)).mono ?_
                     rintro e V2 ⟨rfl, fp4, f4, m4, b4⟩
                     have hb2 := m4.at_ H3.out.2.2.2 HD.out.2.2.2
                     have T2 : V2.cell? ⟨b, 1, none⟩ = some (.int .i64 x1) := (blk_cell hb2 1).trans rfl
                     have H4 := Lib.hid (And.intro f4 (And.intro m4 b4))
                     clear f4 m4 b4 hb2))
                have HS : Hid (St w V2 g g2 (ldouble x1 L) fp3 fp4) := Lib.hid (HD.out.1.step H3.out.1 H3.out.2.1 H3.out.2.2.1 H4.out.1 H4.out.2.1 H4.out.2.2 (ldouble_le x1 HD.out.1.s))
                clear T0 T1 T2
                generalize (ldouble x1 L) = L2 at *
                obtain ⟨A9, c9, hsee⟩ := HS.out.sees
                have S0 := hsee V2.drew ((Mod.refl V2 []).drew)
                have HN : Hid (L2.length ≤ 200) := Lib.hid HS.out.s
                clear hsee
                go_upto_region 22 with fail
                go_region_held3 (fun w' => w'.cell? ⟨g2, 0, none⟩ = some (.slice A9 L2.length c9) ∧ Hid (L2.length ≤ c9 ∧ Kd.C Kd.string w' A9 L2.length L2 ∧ St w w' g g2 L2 fp3 fp4))
                  (first | exact S7 | exact S5 | exact S0)
                  (first
                  | (go_at_call 27
                     refine (all_calls S0.2.out.2.2.p (by have := HN.out; omega)).mono ?_
                     rintro e W5 ⟨A5, n5, c5, rfl, e5, g5, r5, m5⟩
                     have S5 := S0.mod m5
                     have H5 := Lib.hid (And.intro e5 (And.intro g5 (And.intro r5 m5)))
                     clear e5 g5 r5 m5)
                  | (go_at_call 26
                     refine (same_calls (by have := HN.out; omega) H5.out.1 H5.out.2.1 H5.out.2.2.1 rfl S5.2.out.1 S5.2.out.2.1).mono ?_
                     rintro e W7 ⟨rfl, m7⟩
                     have S7 := S5.mod m7
                     clear m7))
                have hw : IntKind.i64.wrap ((j : Int) + 1) = ((j + 1 : Nat) : Int) := by unfold IntKind.wrap; simp [IntKind.signed, IntKind.bits]; omega
                go_wp2
                go_roundg (l.length - (j + 1))
                case measure => omega
                case rel => exact ⟨j + 1, L2, fp3, fp4, by omega, rfl, by rw [show ((j + 1 : Nat) : Int) = (j : Int) + 1 by omega], by omega, S7.2.out.2.2⟩
              · go_upto_region 22 with fail
                generalize wr.alloc (.cells #[.int .i64 x0, .int .i64 x1, .string x2] 45) = V at *
                generalize hb : wr.heap.size = b at *
                have HS : Hid (St w V g g2 L fp fp2) := Lib.hid HB.out.1
                obtain ⟨A9, c9, hsee⟩ := HS.out.sees
                have S0 := hsee V.drew ((Mod.refl V []).drew)
                have HN : Hid (L.length ≤ 200) := Lib.hid HS.out.s
                clear hsee
                go_upto_region 22 with fail
                go_region_held3 (fun w' => w'.cell? ⟨g2, 0, none⟩ = some (.slice A9 L.length c9) ∧ Hid (L.length ≤ c9 ∧ Kd.C Kd.string w' A9 L.length L ∧ St w w' g g2 L fp fp2))
                  (first | exact S7 | exact S5 | exact S0)
                  (first
                  | (go_at_call 27
                     refine (all_calls S0.2.out.2.2.p (by have := HN.out; omega)).mono ?_
                     rintro e W5 ⟨A5, n5, c5, rfl, e5, g5, r5, m5⟩
                     have S5 := S0.mod m5
                     have H5 := Lib.hid (And.intro e5 (And.intro g5 (And.intro r5 m5)))
                     clear e5 g5 r5 m5)
                  | (go_at_call 26
                     refine (same_calls (by have := HN.out; omega) H5.out.1 H5.out.2.1 H5.out.2.2.1 rfl S5.2.out.1 S5.2.out.2.1).mono ?_
                     rintro e W7 ⟨rfl, m7⟩
                     have S7 := S5.mod m7
                     clear m7))
                have hw : IntKind.i64.wrap ((j : Int) + 1) = ((j + 1 : Nat) : Int) := by unfold IntKind.wrap; simp [IntKind.signed, IntKind.bits]; omega
                go_wp2
                go_roundg (l.length - (j + 1))
                case measure => omega
                case rel => exact ⟨j + 1, L, fp, fp2, by omega, rfl, by rw [show ((j + 1 : Nat) : Int) = (j : Int) + 1 by omega], by omega, S7.2.out.2.2⟩
    · have hz : ¬ ((j : Int) < (l.length : Int)) := by omega
      have HE : Hid (Mod w wr []) := Lib.hid HT.out.k
      go_wp2_with fail
      refine (take_nil 0).mono ?_
      rintro e W10 ⟨rfl, rfl⟩
      go_wp2_with fail
      refine (send_nil ⟨#[120]⟩).mono ?_
      rintro e W11 ⟨rfl, rfl⟩
      go_wp2_with fail
      refine (lose_nil 0).mono ?_
      rintro e W12 ⟨rfl, rfl⟩
      go_wp2_with fail
      refine (double_nil 0).mono ?_
      rintro e W13 ⟨rfl, rfl⟩
      go_wp2_with fail
      refine all_nil.mono ?_
      rintro e W14 ⟨rfl, rfl⟩
      go_wp2
      go_ret
      exact ⟨rfl, HE.out⟩
def dovecotelaw16_PostRuns.f (k : Nat) (l : List S45) : Option Bool := some true
theorem dovecotelaw16_PostRuns.calls (k : Nat) (A0 : Option Addr) (c0 : Nat) (l0 : List S45) (r : Bool) (w : World) (hr0 : Kd.C k45 w A0 l0.length l0) (hc0 : l0.length ≤ c0) (h : dovecotelaw16_PostRuns.f k l0 = some r) :
    Calls Try.prog 5 #[.slice A0 l0.length c0] w fun e w' => e = .returned (.bool r) ∧ Below w.heap.size w w' := by
  obtain rfl : true = r := Option.some.inj h
  exact (runs_calls A0 c0 l0 w hr0 hc0).mono fun e w' ⟨h1, h2⟩ => ⟨h1, h2.bel⟩
end Go.Proofs.Ytgkpljlcdopalaa.Post
