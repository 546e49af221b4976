/- The layer 'verdict': VerS; a seat's own text, no law of its own. -/
import Derived.Test.YtdelbidaclddgaaVerR
import Derived.Deep.LoopGhost
import Derived.Deep.Cut
import Derived.Lib.Hide
import Derived.StillTailTactics
import Derived.Deep.QuietTactic
import Derived.BigQuiet
import Derived.Outline
import Derived.Deep.RegionWith
import Derived.Deep.RegionHeld3
import Derived.WalkLawsBesides
namespace Go.Proofs.Ytdelbidaclddgaa.Ver
open Go.RowKit Go.Proofs.YtdelbidaclddgaaW.PrintWords Go.Proofs.Ytdelbidaclddgaa.MVerdictRuns Go.Proofs.YtdelbidaclddgaaW.PrintLast
set_option linter.unusedVariables false
set_option linter.unusedSimpArgs false
attribute [local go_sem high] eqA32 eqA35 eqA37
structure Ps (W V : World) (g q : Nat) (v : S37) (L : List S37) (fp : List Nat) : Prop where
  hM : Mod W V []
  hb : BV V q v
  hB : RBk V g L fp
  hq : W.heap.size ≤ q
theorem Ps.mod {W V V' : World} {g q : Nat} {v : S37} {L : List S37} {fp : List Nat} (h : Ps W V g q v L fp) (m : Mod V V' []) : Ps W V' g q v L fp :=
  ⟨h.hM.trans m (fun _ hk => by cases hk), h.hb.mod m (by simp), h.hB.mod m (by simp), h.hq⟩
def RSetP (W : World) (g : Nat) (fp : List Nat) (r : Int × List S37) (e : Ending) (W' : World) : Prop := e = .returned (.int .i64 r.1) ∧ (∃ fp', RBk W' g r.2 fp' ∧ ∀ y ∈ fp', y ∈ fp ∨ W.heap.size ≤ y) ∧ Mod W W' fp
theorem RSetP.same {W V : World} {g q : Nat} {v : S37} {L : List S37} {fp : List Nat} (h : Ps W V g q v L fp) (c : Int) : RSetP W g fp (c, L) (.returned (.int .i64 c)) V :=
  ⟨rfl, ⟨fp, h.hB, fun y hy => .inl hy⟩, h.hM.mono (fun _ hk => by cases hk)⟩
set_option maxHeartbeats 8000000 in
set_option maxRecDepth 100000 in
theorem rset_bad {W : World} {g : Nat} {L : List S37} {fp : List Nat} (v : S37) (h : RBk W g L fp) (hbad : badB v = true) :
    Calls Try.prog 15 #[.pointer (some ⟨g, 0, none⟩), encV v] W (RSetP W g fp (1, L)) := by
  have m0 := (Mod.refl W []).alloc (.cells #[.int .u32 v.f0.f0, .int .u32 v.f0.f1, .int .u64 v.f1.f0, .int .u32 v.f1.f1, .int .u64 v.f2.f0, .int .u32 v.f2.f1, .int .u8 v.f3, .bool v.f4] 37)
  have H0 : Hid (Ps W (W.alloc (.cells #[.int .u32 v.f0.f0, .int .u32 v.f0.f1, .int .u64 v.f1.f0, .int .u32 v.f1.f1, .int .u64 v.f2.f0, .int .u32 v.f2.f1, .int .u8 v.f3, .bool v.f4] 37)) g W.heap.size v L fp) := Lib.hid ⟨m0, blk_new W _, h.mod m0 (by simp), Nat.le_refl _⟩
  clear m0 h
  obtain ⟨r1, h1⟩ : ∃ r, rightB v.f1.f0 v.f1.f1 = r := ⟨_, rfl⟩
  obtain ⟨r2, h2⟩ : ∃ r, rightB v.f2.f0 v.f2.f1 = r := ⟨_, rfl⟩
  obtain ⟨r3, h3⟩ : ∃ r, commB v = r := ⟨_, rfl⟩
  unfold badB at hbad
  rw [h1, h2, h3] at hbad
  have HX := Lib.hid (And.intro h1 (And.intro h2 h3))
  clear h1 h2 h3
  unfold encV
  go_enter Try.func15, Try.ntmps15
  go_upto_region 1 with fail
  generalize W.alloc (.cells #[.int .u32 v.f0.f0, .int .u32 v.f0.f1, .int .u64 v.f1.f0, .int .u32 v.f1.f1, .int .u64 v.f2.f0, .int .u32 v.f2.f1, .int .u8 v.f3, .bool v.f4] 37) = W1 at *
  generalize W.heap.size = q at *
  obtain ⟨c0, c1, c2, c3, c4, c5, c6, c7⟩ := H0.out.hb.all
  go_wp2_with fail
  refine (rright_calls _ _ _).mono ?_
  rw [HX.out.1]
  rintro e V1 ⟨rfl, m1⟩
  have H1 := Lib.hid (H0.out.mod m1)
  clear m1 c0 c1 c2 c3 c4 c5 c6 c7 H0
  obtain ⟨c0, c1, c2, c3, c4, c5, c6, c7⟩ := H1.out.hb.all
  cases r1
  · go_wp2
    go_ret
    exact RSetP.same H1.out 1
  go_wp2_with fail
  refine (rright_calls _ _ _).mono ?_
  rw [HX.out.2.1]
  rintro e V2 ⟨rfl, m2⟩
  have H2 := Lib.hid (H1.out.mod m2)
  clear m2 c0 c1 c2 c3 c4 c5 c6 c7 H1
  obtain ⟨c0, c1, c2, c3, c4, c5, c6, c7⟩ := H2.out.hb.all
  cases r2
  · go_wp2
    go_ret
    exact RSetP.same H2.out 1
  go_wp2_with fail
  refine (rcomm_calls v V2).mono ?_
  rw [HX.out.2.2]
  rintro e V3 ⟨rfl, m3⟩
  have H3 := Lib.hid (H2.out.mod m3)
  clear m3 c0 c1 c2 c3 c4 c5 c6 c7 H2
  obtain ⟨c0, c1, c2, c3, c4, c5, c6, c7⟩ := H3.out.hb.all
  cases r3
  · simp only [Bool.not_true, Bool.not_false, Bool.true_and, Bool.false_or] at hbad
    generalize v.f4 = x4 at *
    generalize v.f3 = x3 at *
    by_cases hz : x3 = 0
    · subst hz
      obtain rfl : x4 = true := by simpa using hbad
      go_wp2
      go_ret
      exact RSetP.same H3.out 1
    · have hzb : (x3 == 0) = false := by simpa using hz
      go_wp2
      go_ret
      exact RSetP.same H3.out 1
  · simp at hbad
theorem C_take' {w : World} {A : Option Addr} {L : List S37} {i : Nat} (h : Kd.C k37 w A L.length L) (hi : i ≤ L.length) : Kd.C k37 w A i (L.take i) := by
  have := Kd.C_take h hi
  rwa [List.length_take, Nat.min_eq_left hi] at this
theorem C_drop' {w : World} {A : Option Addr} {L : List S37} {i c : Nat} (h : Kd.C k37 w A L.length L) (hi : i ≤ L.length) (hc : L.length ≤ c) : Kd.C k37 w (if c = i then A else A.map (·.add (i * 8))) (L.length - i) (L.drop i) := by
  have := Kd.C_drop h hi hc
  rwa [List.length_drop] at this
attribute [local go_sem high] eqA32 eqA35 eqA37
theorem eq37 (x y : S37) (w : World) : (binOp .eql 37 (encV x) (encV y)).run Try.prog w = .ok (.bool (eqVB x y)) w := by
  unfold encV eqVB
  go_simp
set_option maxHeartbeats 8000000 in
set_option maxRecDepth 100000 in
theorem rset_ok {W : World} {g : Nat} {L : List S37} {fp : List Nat} (v : S37) (h : RBk W g L fp) (hbad : badB v = false) (ho : OrdV L) (hl : L.length ≤ 1000000) {r : Int × List S37} (hr : setR L v = r) :
    Calls Try.prog 15 #[.pointer (some ⟨g, 0, none⟩), encV v] W (RSetP W g fp r) := by
  have m0 := (Mod.refl W []).alloc (.cells #[.int .u32 v.f0.f0, .int .u32 v.f0.f1, .int .u64 v.f1.f0, .int .u32 v.f1.f1, .int .u64 v.f2.f0, .int .u32 v.f2.f1, .int .u8 v.f3, .bool v.f4] 37)
  have H0 : Hid (Ps W (W.alloc (.cells #[.int .u32 v.f0.f0, .int .u32 v.f0.f1, .int .u64 v.f1.f0, .int .u32 v.f1.f1, .int .u64 v.f2.f0, .int .u32 v.f2.f1, .int .u8 v.f3, .bool v.f4] 37)) g W.heap.size v L fp) := Lib.hid ⟨m0, blk_new W _, h.mod m0 (by simp), Nat.le_refl _⟩
  have hr2 : (match findV v.f0.f0 v.f0.f1 L with | none => (0, setV v L) | some o => if eqVB { o with f4 := v.f4 } v = true then (0, L) else (40, L)) = r := by rw [← hr]; unfold setR; rw [hbad, if_neg (by simp)]; cases findV v.f0.f0 v.f0.f1 L <;> rfl
  have HO := Lib.hid (And.intro ho hr2)
  clear m0 h ho hr hr2
  obtain ⟨r1, h1⟩ : ∃ r, rightB v.f1.f0 v.f1.f1 = r := ⟨_, rfl⟩
  obtain ⟨r2, h2⟩ : ∃ r, rightB v.f2.f0 v.f2.f1 = r := ⟨_, rfl⟩
  obtain ⟨r3, h3⟩ : ∃ r, commB v = r := ⟨_, rfl⟩
  unfold badB at hbad
  rw [h1, h2, h3] at hbad
  have HX := Lib.hid (And.intro h1 (And.intro h2 h3))
  clear h1 h2 h3
  unfold encV
  go_enter Try.func15, Try.ntmps15
  go_upto_region 1 with fail
  generalize W.alloc (.cells #[.int .u32 v.f0.f0, .int .u32 v.f0.f1, .int .u64 v.f1.f0, .int .u32 v.f1.f1, .int .u64 v.f2.f0, .int .u32 v.f2.f1, .int .u8 v.f3, .bool v.f4] 37) = W1 at *
  generalize W.heap.size = q at *
  obtain ⟨c0, c1, c2, c3, c4, c5, c6, c7⟩ := H0.out.hb.all
  go_wp2_with fail
  refine (rright_calls _ _ _).mono ?_
  rw [HX.out.1]
  rintro e V1 ⟨rfl, m1⟩
  have H1 := Lib.hid (H0.out.mod m1)
  clear m1 c0 c1 c2 c3 c4 c5 c6 c7 H0
  obtain ⟨c0, c1, c2, c3, c4, c5, c6, c7⟩ := H1.out.hb.all
  obtain rfl : r1 = true := by cases r1 <;> simp_all
  go_wp2_with fail
  refine (rright_calls _ _ _).mono ?_
  rw [HX.out.2.1]
  rintro e V2 ⟨rfl, m2⟩
  have H2 := Lib.hid (H1.out.mod m2)
  clear m2 c0 c1 c2 c3 c4 c5 c6 c7 H1
  obtain ⟨c0, c1, c2, c3, c4, c5, c6, c7⟩ := H2.out.hb.all
  obtain rfl : r2 = true := by cases r2 <;> simp_all
  go_wp2_with fail
  refine (rcomm_calls v V2).mono ?_
  rw [HX.out.2.2]
  rintro e V3 ⟨rfl, m3⟩
  have H3 := Lib.hid (H2.out.mod m3)
  clear m3 c0 c1 c2 c3 c4 c5 c6 c7 H2
  obtain ⟨c0, c1, c2, c3, c4, c5, c6, c7⟩ := H3.out.hb.all
  simp only [Bool.not_true, Bool.false_or] at hbad
  cases r3
  case' false =>
    simp only [Bool.not_false, Bool.true_and, Bool.or_eq_false_iff, Bool.not_eq_false'] at hbad
    obtain ⟨hz, h4⟩ := hbad
    have hz2 : v.f3 = 0 := by simpa using hz
    rw [hz2] at c6
    rw [h4] at c7
    go_upto_region 3 with fail
    clear hz h4 hz2
  case' true =>
    go_upto_region 3 with fail
    clear hbad
  all_goals
    clear c0 c1 c2 c3 c4 c5 c6 c7
    obtain ⟨c0, c1, c2, c3, c4, c5, c6, c7⟩ := H3.out.hb.all
    obtain ⟨A, k, hg, hk, hC⟩ := H3.out.hB.get
    go_wp2_with fail
    refine (place_calls _ _ hg hC hl).mono ?_
    rintro e V4 ⟨i, ok, hpl, rfl, m4⟩
    have H4 := Lib.hid (H3.out.mod m4)
    have hf := place_find HO.out.1 hpl
    clear c0 c1 c2 c3 c4 c5 c6 c7 hg hk hC m4 H3
    obtain ⟨c0, c1, c2, c3, c4, c5, c6, c7⟩ := H4.out.hb.all
    cases ok
    · rw [if_neg (by simp)] at hf
      have HZ : Hid ((0, L.take i ++ v :: L.drop i) = r ∧ i ≤ L.length) := Lib.hid (by
        have h := HO.out.2
        rw [hf, place_put HO.out.1 hpl, List.append_assoc] at h
        exact ⟨h, hpl.hi⟩)
      obtain ⟨vb, hbx, hrow, hng, rfl⟩ := H4.out.hB
      obtain ⟨A, k, rfl, hk, hC⟩ := hrow.C
      have hg : V4.cell? ⟨g, 0, none⟩ = some (.slice A L.length k) := (blk_cell hbx 0).trans rfl
      have hiz : (i : Int) ≤ (L.length : Int) := by have := HZ.out.2; omega
      have HG := Lib.hid (And.intro hg (And.intro hC (And.intro hk (And.intro hbx hng))))
      have hgc := H4.out.hb
      have HH := Lib.hid (And.intro H4.out.hM hgc)
      clear hf hpl hC hbx hng hrow hgc H4
      go_wp2_with (first | (at_builtin; refine Kd.R_append_rows k37 (w0 := V4) (W := V4) 0 rfl _ _ 27 37 (.agg #[.int .u32 0, .int .u32 0, .int .u64 0, .int .u32 0, .int .u64 0, .int .u32 0, .int .u8 0, .bool false]) 48 rfl Try.underlying27 info37 rfl (by decide) (by decide) (.slice none 0 0) [] (L.take i) A i k (fun b => V4.heap.size ≤ b) (fun _ => False) rfl rfl (Kd.R_nil _ _ _ _ _) (C_take' HG.out.2.1 HZ.out.2) (fun x cs h => h) (fun k h => h.elim) (fun _ h => h) (Below.refl _ _) (Nat.zero_le _) (by simp; omega) ?_) | fail)
      intro v5 V5 o5 _ g5 _
      have o5 : k37.R 37 V5 0 (fun b => V4.heap.size ≤ b) v5 (L.take i) := o5
      have m5 : Mod V4 V5 [] := (mod_own g5).mono (fun y hy => by cases hy)
      have hg5 := cellM hg m5
      have hb5 := HH.out.2.mod m5 (by simp)
      have H5 := Lib.hid (And.intro m5 o5)
      clear c0 c1 c2 c3 c4 c5 c6 c7 hg o5 m5 g5
      obtain ⟨c0, c1, c2, c3, c4, c5, c6, c7⟩ := hb5.all
      go_wp2_with (first | (at_builtin; refine Kd.R_append k37 (w0 := V5) (W := V5) 0 rfl _ _ 27 37 (.agg #[.int .u32 0, .int .u32 0, .int .u64 0, .int .u32 0, .int .u64 0, .int .u32 0, .int .u8 0, .bool false]) 48 rfl Try.underlying27 info37 rfl (by decide) (by decide) v5 (L.take i) v [.int .u32 v.f0.f0, .int .u32 v.f0.f1, .int .u64 v.f1.f0, .int .u32 v.f1.f1, .int .u64 v.f2.f0, .int .u32 v.f2.f1, .int .u8 v.f3, .bool v.f4] (fun b => V4.heap.size ≤ b) (fun _ => False) rfl rfl (k37_mkM _ _ _ v) (fun k h => h.elim) (fun k h => Nat.le_trans H5.out.1.size h) H5.out.2 (Below.refl _ _) (Nat.zero_le _) (by rw [List.length_take]; omega) ?_) | fail)
      intro v6 V6 o6 _ g6 _
      have m6 : Mod V4 V6 [] := H5.out.1.trans (mod_own g6) (fun y hy => .inr (H5.out.2.1 y (own_mem _ y hy)))
      have hg6 := cellM HG.out.1 m6
      have H6 := Lib.hid (And.intro m6 o6)
      clear c0 c1 c2 c3 c4 c5 c6 c7 hg5 hb5 o6 m6 g6
      go_wp2_with (first | (at_builtin; (refine Kd.R_append_rows k37 (w0 := V6) (W := V6) 0 rfl _ _ 27 37 (.agg #[.int .u32 0, .int .u32 0, .int .u64 0, .int .u32 0, .int .u64 0, .int .u32 0, .int .u8 0, .bool false]) 48 rfl Try.underlying27 info37 rfl (by decide) (by decide) v6 (L.take i ++ [v]) (L.drop i) _ _ _ (fun b => V4.heap.size ≤ b) (fun _ => False) rfl rfl H6.out.2 (C_drop' (Kd.C_below HG.out.2.1 (Mod.bel H6.out.1)) HZ.out.2 HG.out.2.2.1) (fun x cs h => h) (fun k h => h.elim) (fun k h => Nat.le_trans H6.out.1.size h) (Below.refl _ _) (Nat.zero_le _) (by rw [List.length_append, List.length_take]; simp; omega) ?_)) | fail)
      all_goals
        intro v7 V7 o7 _ g7 _
        have m7 : Mod V4 V7 [] := H6.out.1.trans (mod_own g7) (fun y hy => .inr (H6.out.2.1 y (own_mem _ y hy)))
        have hg7 := cellM HG.out.1 m7
        have hfz := blk_frozen (m7.at_ HG.out.2.2.2.1 (by simp)) 0
        obtain ⟨l7, hl7⟩ : ∃ l7, L.take i ++ v :: L.drop i = l7 := ⟨_, rfl⟩
        rw [hl7] at o7
        have HL := Lib.hid hl7
        have H7 := Lib.hid (And.intro m7 o7)
        obtain ⟨A7, n7, c7, e7⟩ := Row.form (Row.of o7)
        subst e7
        clear o7 m7 g7 hg6 hl7
        go_wp2
        go_ret
        have hput := BoxF.put plain37 HG.out.2.2.2.1 HG.out.2.2.2.2 (Row.of H7.out.2) (H7.out.1.mono (fun _ hk => by cases hk)) (fun y hy => .inr (H7.out.2.1 y (own_mem _ y hy)))
        rw [← HZ.out.1, HL.out]
        exact ⟨rfl, ⟨_, hput.1, fun y hy => (hput.2.2 y hy).imp id (fun h => Nat.le_trans HH.out.1.size h)⟩, (HH.out.1.mono (fun _ hk => by cases hk)).trans hput.2.1 (fun k hk => .inl hk)⟩
    · obtain ⟨hi, hkq⟩ := hpl.yes rfl
      rw [if_pos rfl, List.getElem?_eq_getElem hi] at hf
      obtain ⟨gb, cap, d0, ⟨a0, a1, a2, a3, a4, a5, a6, a7⟩, _, _⟩ := H4.out.hB.at_ i hi
      have hiz : (i : Int) < (L.length : Int) := by omega
      obtain ⟨y, hy⟩ : ∃ y, L[i] = y := ⟨_, rfl⟩
      rw [hy] at a0 a1 a2 a3 a4 a5 a6 a7 hf
      have HZ : Hid ((if eqVB { y with f4 := v.f4 } v = true then (0, L) else (40, L)) = r) := Lib.hid (by have h := HO.out.2; rw [hf] at h; exact h)
      clear hf hpl hkq hy
      go_upto_region 6 with fail
      have B6 : BV (V4.alloc (.cells #[.int .u32 y.f0.f0, .int .u32 y.f0.f1, .int .u64 y.f1.f0, .int .u32 y.f1.f1, .int .u64 y.f2.f0, .int .u32 y.f2.f1, .int .u8 y.f3, .bool y.f4] 37)) V4.heap.size y := blk_new V4 _
      have H5 := Lib.hid (H4.out.mod ((Mod.refl V4 []).alloc (.cells #[.int .u32 y.f0.f0, .int .u32 y.f0.f1, .int .u64 y.f1.f0, .int .u32 y.f1.f1, .int .u64 y.f2.f0, .int .u32 y.f2.f1, .int .u8 y.f3, .bool y.f4] 37)))
      have hq4 := blk_lt H4.out.hb
      have hg4 : ∀ y ∈ fp, y < V4.heap.size := H4.out.hB.lt
      have hs4 := H4.out.hM.size
      clear H4 c0 c1 c2 c3 c4 c5 c6 c7 d0 a0 a1 a2 a3 a4 a5 a6 a7
      generalize V4.alloc (.cells #[.int .u32 y.f0.f0, .int .u32 y.f0.f1, .int .u64 y.f1.f0, .int .u32 y.f1.f1, .int .u64 y.f2.f0, .int .u32 y.f2.f1, .int .u8 y.f3, .bool y.f4] 37) = V5 at *
      generalize V4.heap.size = b5 at *
      obtain ⟨c0, c1, c2, c3, c4, c5, c6, c7⟩ := H5.out.hb.all
      have fz := blk_frozen B6 7
      obtain ⟨e0, e1, e2, e3, e4, e5, e6, e7⟩ := B6.all
      go_upto_region 7 with fail
      have m6 : Mod V5 (V5.setCell ⟨b5, 7, none⟩ (.bool v.f4)) [b5] := (Mod.refl V5 [b5]).setCell (p := ⟨b5, 7, none⟩) (.inl (by simp)) _
      have B7 : BV (V5.setCell ⟨b5, 7, none⟩ (.bool v.f4)) b5 { y with f4 := v.f4 } := blk_put B6 7 _ rfl
      have H6 : Hid (Ps W (V5.setCell ⟨b5, 7, none⟩ (.bool v.f4)) g q v L fp) := Lib.hid ⟨H5.out.hM.trans m6 (fun k hk => by simp at hk; subst hk; exact .inr hs4), H5.out.hb.mod m6 (by simp; omega), H5.out.hB.mod m6 (fun z hz => by have := hg4 z hz; simp; omega), H5.out.hq⟩
      clear c0 c1 c2 c3 c4 c5 c6 c7 e0 e1 e2 e3 e4 e5 e6 e7 fz m6 B6 H5
      generalize V5.setCell ⟨b5, 7, none⟩ (.bool v.f4) = V6 at *
      obtain ⟨c0, c1, c2, c3, c4, c5, c6, c7⟩ := H6.out.hb.all
      obtain ⟨e0, e1, e2, e3, e4, e5, e6, e7⟩ := B7.all
      simp only at e0 e1 e2 e3 e4 e5 e6 e7
      have hsame : ∀ c, RSetP W g fp (c, L) (.returned (.int .i64 c)) V6 := fun c => RSetP.same H6.out c
      by_cases hqv : eqVB { y with f4 := v.f4 } v = true
      · have hz := HZ.out
        rw [if_pos hqv] at hz
        unfold eqVB at hqv
        simp only [Bool.and_eq_true, beq_iff_eq] at hqv
        obtain ⟨⟨k1, k2⟩, ⟨k3, k4⟩, ⟨k5, k6⟩, k7, _⟩ := hqv
        rw [k1] at e0
        rw [k2] at e1
        rw [k3] at e2
        rw [k4] at e3
        rw [k5] at e4
        rw [k6] at e5
        rw [k7] at e6
        clear k1 k2 k3 k4 k5 k6 k7 HZ
        go_wp2
        go_ret
        rw [← hz]
        exact hsame 0
      · have hz := HZ.out
        rw [if_neg hqv] at hz
        clear HZ
        have h40 : RSetP W g fp r (.returned (.int .i64 40)) V6 := by rw [← hz]; exact hsame 40
        clear hz
        have HV := Lib.hid hqv
        clear hqv
        go_wp2
        all_goals first
          | (go_ret; exact h40)
          | (exfalso; refine HV.out ?_; unfold eqVB; simp [*]; done)
end Go.Proofs.Ytdelbidaclddgaa.Ver
