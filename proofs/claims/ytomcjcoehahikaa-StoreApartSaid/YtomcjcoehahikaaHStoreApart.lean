/- The law StoreApart walked by hand; a seat's own text. -/
import Derived.Test.YtomcjcoehahikaaStoLaw
import Derived.Deep.LoopGhost
import Derived.Deep.Cut
import Derived.Lib.Hide
import Derived.StillTailTactics
import Derived.Deep.QuietTactic
import Derived.BigQuiet
import Derived.Outline
import Derived.Deep.RegionWith
import Derived.Deep.RegionHeld3
import Derived.WalkLawsBesides
namespace Go.Proofs.Ytomcjcoehahikaa.Sto
open Go.RowKit Go.Proofs.YtomcjcoehahikaaW.PrintWords
set_option linter.unusedVariables false
set_option linter.unusedSimpArgs false
open Go.Proofs.Ytomcjcoehahikaa.Ord Go.Proofs.Ytomcjcoehahikaa.MStoreRuns Go.Proofs.YtomcjcoehahikaaW.PrintLast
/-! StoreApart -/
theorem apart_same {L : St} {key k : ByteArray} (h : key.toList ≠ k.toList) (v : S31) : chOf (putS L k v).1 key = chOf L key := by
  unfold putS
  split
  · rfl
  · split
    · dsimp only; rw [chOf_set, if_neg h]
    · rfl
theorem apart_eq {L L' : St} {key : ByteArray} (h : chOf L key = chOf L' key) (v : S31) : chOf (putS L key v).1 key = chOf (putS L' key v).1 key := by
  unfold putS
  rw [h]
  split
  · exact h
  · split
    · dsimp only; rw [chOf_set, chOf_set, if_pos rfl, if_pos rfl]
    · exact h
theorem two_drop {w W : World} {P Q : World → List Nat → Prop} {p : Nat × Obj} {K : List (Nat × Obj)} (h : Two w W P Q (p :: K)) : Two w W P Q K := by
  obtain ⟨fp, fq, h1, h2, h3, h4, h5, h6, h7⟩ := h
  exact ⟨fp, fq, h1, h2, h3, h4, h5, h6, fun q hq => h7 q (by simp [hq])⟩
set_option maxRecDepth 100000 in
set_option maxHeartbeats 16000000 in
theorem apart_calls {W : World} {A : Option Addr} {c : Nat} {l : List S69} (key : ByteArray) (t0 t1 : Int) (hr : Kd.C k69 W A l.length l) (hc : l.length ≤ c) :
    Calls Try.prog 9 #[.slice A l.length c, .string key, .agg #[.int .u64 t0, .int .u32 t1]] W (AwkP W) := by
  have hm := (Mod.refl W []).alloc (.cells #[.int .u64 t0, .int .u32 t1] 27)
  have hb := blk_new W (.cells #[.int .u64 t0, .int .u32 t1] 27)
  have HR := Lib.hid (And.intro (Kd.C_below hr (Mod.bel hm)) hc)
  have H := Lib.hid (And.intro hm hb)
  clear hr hc hm hb
  go_enter Try.func9, Try.ntmps9
  go_wp2_with fail
  generalize W.alloc (.cells #[.int .u64 t0, .int .u32 t1] 27) = W1 at H HR ⊢
  generalize W.heap.size = v at H ⊢
  refine awake_calls.mono ?_
  rintro e W2 ⟨rfl, m2⟩
  have H2 := Lib.hid (And.intro (H.out.1.trans m2 (by simp)) (And.intro (m2.at_ H.out.2 (by simp)) (Kd.C_below HR.out.1 (Mod.bel m2))))
  clear m2
  go_wp2_with fail
  refine (onew (w := W2) (Mod.refl W2 [])).mono ?_
  rintro e W3 ⟨sa, rfl, h3⟩
  have H3 := Lib.hid h3
  clear h3
  go_wp2_with fail
  refine (onew (w := W3) (Mod.refl W3 [])).mono ?_
  rintro e W4 ⟨sb, rfl, h4⟩
  have h4' := H3.out.two h4
  have H4 := Lib.hid (h4'.add (h4'.m.at_ H2.out.2.1 (by simp)) (blk_lt H2.out.2.1))
  clear h4 h4' H3
  go_wp2_with fail
  go_loopg [21] l.length (fun k i wr => ∃ (j : Nat) (L1 L2 : St), j ≤ l.length ∧ k = l.length - j ∧ i = .int .i64 j ∧ j ≤ 80 ∧ Two W2 wr (SP sa L1) (SP sb L2) [(v, .cells #[.int .u64 t0, .int .u32 t1] 27)] ∧ chOf L1 key = chOf L2 key ∧ L1.length ≤ j ∧ L2.length ≤ j)
  case atStart => exact ⟨0, [], [], Nat.zero_le _, rfl, rfl, by omega, H4.out, rfl, by simp, by simp⟩
  case round =>
    obtain ⟨j, L1, L2, hj, rfl, rfl, hj3, hT, hch, hl1, hl2⟩ := hrel
    have HT := Lib.hid (And.intro hT (And.intro hch trivial))
    clear hT hch
    by_cases hjl : j < l.length
    · obtain ⟨ad, rfl, a0, a1, a2, a3, a4, a5, a6, a7, a8, a9⟩ := act_cells (Kd.C_below H2.out.2.2 (Mod.bel HT.out.1.m)) j hjl
      have hjz : (j : Int) < (l.length : Int) := by omega
      by_cases h3 : j = 80
      · subst h3
        have e5 : ad.add (80 * 10) = ⟨ad.block, ad.off + 800, none⟩ := by simp [Addr.add]
        rw [e5] at a0 a1 a2 a3 a4 a5 a6 a7 a8 a9
        dsimp only at a0 a1 a2 a3 a4 a5 a6 a7 a8 a9
        have HZ := Lib.hid (And.intro (HT.out.1.mod (thingS _ _) (thingS _ _) ((Mod.refl wr []).alloc (.cells #[.int .i64 l[80].f0, .int .i64 l[80].f1, .string l[80].f2, .string l[80].f3, .int .u64 l[80].f4.f0.f0, .int .u32 l[80].f4.f0.f1, .int .u32 l[80].f4.f1.f0, .int .u32 l[80].f4.f1.f1, .string l[80].f4.f2, .bool l[80].f4.f3] 69))) trivial)
        have hch := HT.out.2.1
        obtain ⟨x, b, hx⟩ : ∃ x b, getS L1 key t0 t1 = (x, b) := ⟨_, _, rfl⟩
        have hx2 : getS L2 key t0 t1 = (x, b) := by rw [← hx]; unfold getS; rw [hch]
        have HX := Lib.hid hx
        have HX2 := Lib.hid hx2
        obtain ⟨n1, n2, hn⟩ : ∃ a b, nwC (chOf L1 key) = (a, b) := ⟨_, _, rfl⟩
        obtain ⟨cn, hcn⟩ : ∃ a, (chOf L1 key).length = a := ⟨_, rfl⟩
        have HN := Lib.hid (And.intro hn (And.intro (show nwC (chOf L2 key) = (n1, n2) by rw [← hch]; exact hn) (And.intro hcn (show (chOf L2 key).length = cn by rw [← hch]; exact hcn))))
        clear hx hx2 hn hcn hch
        have ua : (wr.alloc (.cells #[.int .i64 l[80].f0, .int .i64 l[80].f1, .string l[80].f2, .string l[80].f3, .int .u64 l[80].f4.f0.f0, .int .u32 l[80].f4.f0.f1, .int .u32 l[80].f4.f1.f0, .int .u32 l[80].f4.f1.f1, .string l[80].f4.f2, .bool l[80].f4.f3] 69)).cell? ⟨v, 0, none⟩ = some (.int .u64 t0) := (blk_cell (HZ.out.1.at (b := v) (o := .cells #[.int .u64 t0, .int .u32 t1] 27) (by simp)) 0).trans rfl
        have ub : (wr.alloc (.cells #[.int .i64 l[80].f0, .int .i64 l[80].f1, .string l[80].f2, .string l[80].f3, .int .u64 l[80].f4.f0.f0, .int .u32 l[80].f4.f0.f1, .int .u32 l[80].f4.f1.f0, .int .u32 l[80].f4.f1.f1, .string l[80].f4.f2, .bool l[80].f4.f3] 69)).cell? ⟨v, 1, none⟩ = some (.int .u32 t1) := (blk_cell (HZ.out.1.at (b := v) (o := .cells #[.int .u64 t0, .int .u32 t1] 27) (by simp)) 1).trans rfl
        go_wp2_with fail
        refine (oget key t0 t1 HZ.out.1.s HX.out).mono ?_
        rintro e Y1 ⟨rfl, m1⟩
        have hy1 := HZ.out.1.mod (thingS _ _) (thingS _ _) m1
        clear ua ub
        have ua : Y1.cell? ⟨v, 0, none⟩ = some (.int .u64 t0) := (blk_cell (hy1.at (b := v) (o := .cells #[.int .u64 t0, .int .u32 t1] 27) (by simp)) 0).trans rfl
        have ub : Y1.cell? ⟨v, 1, none⟩ = some (.int .u32 t1) := (blk_cell (hy1.at (b := v) (o := .cells #[.int .u64 t0, .int .u32 t1] 27) (by simp)) 1).trans rfl
        have HY1 := Lib.hid hy1
        clear hy1 m1
        go_wp2_with fail
        refine (oget key t0 t1 HY1.out.swap.s HX2.out).mono ?_
        rintro e Y2 ⟨rfl, m2⟩
        have HY2 := Lib.hid (HY1.out.mod (thingS _ _) (thingS _ _) m2)
        clear m2 ua ub
        go_wp2_with fail
        refine (knewest key HY2.out.s HN.out.1).mono ?_
        rintro e Y3 ⟨rfl, m3⟩
        have HY3 := Lib.hid (HY2.out.mod (thingS _ _) (thingS _ _) m3)
        clear m3
        go_wp2_with fail
        refine (knewest key HY3.out.swap.s HN.out.2.1).mono ?_
        rintro e Y4 ⟨rfl, m4⟩
        have HY4 := Lib.hid (HY3.out.mod (thingS _ _) (thingS _ _) m4)
        clear m4
        go_wp2_with fail
        refine (kcount key HY4.out.s HN.out.2.2.1).mono ?_
        rintro e Y5 ⟨rfl, rfl⟩
        go_wp2_with fail
        refine (kcount key HY4.out.swap.s HN.out.2.2.2).mono ?_
        rintro e Y6 ⟨rfl, rfl⟩
        go_wp2
        go_ret
        exact ⟨rfl, H2.out.1.trans HY4.out.m (by simp)⟩
      · have h3z : ¬ ((j : Int) = 80) := by omega
        have h3b : ((j : Int) == 80) = false := by simpa using h3z
        have hw : IntKind.i64.wrap ((j : Int) + 1) = ((j + 1 : Nat) : Int) := by rw [i64w (by omega) (by omega)]; omega
        have HV := Lib.hid (HT.out.1.alloc (thingS _ _) (thingS _ _) (.cells #[.int .i64 l[j].f0, .int .i64 l[j].f1, .string l[j].f2, .string l[j].f3, .int .u64 l[j].f4.f0.f0, .int .u32 l[j].f4.f0.f1, .int .u32 l[j].f4.f1.f0, .int .u32 l[j].f4.f1.f1, .string l[j].f4.f2, .bool l[j].f4.f3] 69))
        generalize l[j] = x at *
        obtain ⟨x0, x1, x2, x3, ⟨⟨v0, v1⟩, ⟨v2, v3⟩, v4, v5⟩⟩ := x
        dsimp only at a0 a1 a2 a3 a4 a5 a6 a7 a8 a9 HV ⊢
        obtain ⟨L1', r1, hq1⟩ : ∃ L' r, putS L1 x2 ⟨⟨v0, v1⟩, ⟨v2, v3⟩, v4, v5⟩ = (L', r) := ⟨_, _, rfl⟩
        obtain ⟨L2', r2, hq2⟩ : ∃ L' r, putS L2 x2 ⟨⟨v0, v1⟩, ⟨v2, v3⟩, v4, v5⟩ = (L', r) := ⟨_, _, rfl⟩
        have hg1 := putS_len L1 x2 ⟨⟨v0, v1⟩, ⟨v2, v3⟩, v4, v5⟩
        have hg2 := putS_len L2 x2 ⟨⟨v0, v1⟩, ⟨v2, v3⟩, v4, v5⟩
        rw [hq1] at hg1
        rw [hq2] at hg2
        dsimp only at hg1 hg2
        have hks : key.toList ≠ x2.toList → chOf L1' key = chOf L2 key := fun hne => by have e := apart_same hne (L := L1) ⟨⟨v0, v1⟩, ⟨v2, v3⟩, v4, v5⟩; rw [hq1] at e; exact e.trans HT.out.2.1
        have hke : key.toList = x2.toList → chOf L1' key = chOf L2' key := fun he => by
          have hk := ba_inj he
          subst hk
          have e := apart_eq HT.out.2.1 ⟨⟨v0, v1⟩, ⟨v2, v3⟩, v4, v5⟩
          rw [hq1, hq2] at e
          exact e
        have HQ := Lib.hid (And.intro hq1 (And.intro hq2 (And.intro hks hke)))
        clear hq1 hq2 hks hke
        go_wp2_with fail
        generalize hqe : wr.heap.size = q at HV ⊢
        have HQE := Lib.hid hqe
        clear hqe
        refine (tput (thingS _ _) x2 v0 v1 v2 v3 v4 v5 HV.out (by omega) HQ.out.1).mono ?_
        rintro e W6 ⟨rfl, h6⟩
        have e2 : W6.cell? ⟨q, 2, none⟩ = some (.string x2) := (blk_cell (h6.at (b := q) (o := .cells #[.int .i64 x0, .int .i64 x1, .string x2, .string x3, .int .u64 v0, .int .u32 v1, .int .u32 v2, .int .u32 v3, .string v4, .bool v5] 69) (by simp)) 2).trans rfl
        have e4 : W6.cell? ⟨q, 4, none⟩ = some (.int .u64 v0) := (blk_cell (h6.at (b := q) (o := .cells #[.int .i64 x0, .int .i64 x1, .string x2, .string x3, .int .u64 v0, .int .u32 v1, .int .u32 v2, .int .u32 v3, .string v4, .bool v5] 69) (by simp)) 4).trans rfl
        have e5 : W6.cell? ⟨q, 5, none⟩ = some (.int .u32 v1) := (blk_cell (h6.at (b := q) (o := .cells #[.int .i64 x0, .int .i64 x1, .string x2, .string x3, .int .u64 v0, .int .u32 v1, .int .u32 v2, .int .u32 v3, .string v4, .bool v5] 69) (by simp)) 5).trans rfl
        have e6 : W6.cell? ⟨q, 6, none⟩ = some (.int .u32 v2) := (blk_cell (h6.at (b := q) (o := .cells #[.int .i64 x0, .int .i64 x1, .string x2, .string x3, .int .u64 v0, .int .u32 v1, .int .u32 v2, .int .u32 v3, .string v4, .bool v5] 69) (by simp)) 6).trans rfl
        have e7 : W6.cell? ⟨q, 7, none⟩ = some (.int .u32 v3) := (blk_cell (h6.at (b := q) (o := .cells #[.int .i64 x0, .int .i64 x1, .string x2, .string x3, .int .u64 v0, .int .u32 v1, .int .u32 v2, .int .u32 v3, .string v4, .bool v5] 69) (by simp)) 7).trans rfl
        have e8 : W6.cell? ⟨q, 8, none⟩ = some (.string v4) := (blk_cell (h6.at (b := q) (o := .cells #[.int .i64 x0, .int .i64 x1, .string x2, .string x3, .int .u64 v0, .int .u32 v1, .int .u32 v2, .int .u32 v3, .string v4, .bool v5] 69) (by simp)) 8).trans rfl
        have e9 : W6.cell? ⟨q, 9, none⟩ = some (.bool v5) := (blk_cell (h6.at (b := q) (o := .cells #[.int .i64 x0, .int .i64 x1, .string x2, .string x3, .int .u64 v0, .int .u32 v1, .int .u32 v2, .int .u32 v3, .string v4, .bool v5] 69) (by simp)) 9).trans rfl
        have H6 := Lib.hid h6
        clear h6
        by_cases hk : x2.toList = key.toList
        · have hkb : (x2.toList == key.toList) = true := by rw [hk]; simp
          have HK := Lib.hid hk
          clear hk
          go_wp2_with fail
          refine (tput (thingS _ _) x2 v0 v1 v2 v3 v4 v5 H6.out.swap (by omega) HQ.out.2.1).mono ?_
          rintro e W7 ⟨rfl, h7⟩
          have H7 := Lib.hid h7.swap
          clear h7
          go_wp2
          go_roundg (l.length - (j + 1))
          case measure => omega
          case rel => exact ⟨j + 1, L1', L2', by omega, rfl, by rw [show ((j + 1 : Nat) : Int) = (j : Int) + 1 by omega], by omega, two_drop H7.out, HQ.out.2.2.2 HK.out.symm, by omega, by omega⟩
        · have hkb : (x2.toList == key.toList) = false := by simpa using hk
          have HK := Lib.hid hk
          go_wp2
          go_roundg (l.length - (j + 1))
          case measure => omega
          case rel => exact ⟨j + 1, L1', L2, by omega, rfl, by rw [show ((j + 1 : Nat) : Int) = (j : Int) + 1 by omega], by omega, two_drop H6.out, HQ.out.2.2.1 (fun e => HK.out e.symm), by omega, by omega⟩
    · obtain rfl : j = l.length := by omega
      have hzz : ¬ ((l.length : Int) < (l.length : Int)) := by omega
      have HZ := Lib.hid (And.intro HT.out.1 trivial)
      have hch := HT.out.2.1
      obtain ⟨x, b, hx⟩ : ∃ x b, getS L1 key t0 t1 = (x, b) := ⟨_, _, rfl⟩
      have hx2 : getS L2 key t0 t1 = (x, b) := by rw [← hx]; unfold getS; rw [hch]
      have HX := Lib.hid hx
      have HX2 := Lib.hid hx2
      obtain ⟨n1, n2, hn⟩ : ∃ a b, nwC (chOf L1 key) = (a, b) := ⟨_, _, rfl⟩
      obtain ⟨cn, hcn⟩ : ∃ a, (chOf L1 key).length = a := ⟨_, rfl⟩
      have HN := Lib.hid (And.intro hn (And.intro (show nwC (chOf L2 key) = (n1, n2) by rw [← hch]; exact hn) (And.intro hcn (show (chOf L2 key).length = cn by rw [← hch]; exact hcn))))
      clear hx hx2 hn hcn hch
      have ua : wr.cell? ⟨v, 0, none⟩ = some (.int .u64 t0) := (blk_cell (HZ.out.1.at (b := v) (o := .cells #[.int .u64 t0, .int .u32 t1] 27) (by simp)) 0).trans rfl
      have ub : wr.cell? ⟨v, 1, none⟩ = some (.int .u32 t1) := (blk_cell (HZ.out.1.at (b := v) (o := .cells #[.int .u64 t0, .int .u32 t1] 27) (by simp)) 1).trans rfl
      go_wp2_with fail
      refine (oget key t0 t1 HZ.out.1.s HX.out).mono ?_
      rintro e Y1 ⟨rfl, m1⟩
      have hy1 := HZ.out.1.mod (thingS _ _) (thingS _ _) m1
      clear ua ub
      have ua : Y1.cell? ⟨v, 0, none⟩ = some (.int .u64 t0) := (blk_cell (hy1.at (b := v) (o := .cells #[.int .u64 t0, .int .u32 t1] 27) (by simp)) 0).trans rfl
      have ub : Y1.cell? ⟨v, 1, none⟩ = some (.int .u32 t1) := (blk_cell (hy1.at (b := v) (o := .cells #[.int .u64 t0, .int .u32 t1] 27) (by simp)) 1).trans rfl
      have HY1 := Lib.hid hy1
      clear hy1 m1
      go_wp2_with fail
      refine (oget key t0 t1 HY1.out.swap.s HX2.out).mono ?_
      rintro e Y2 ⟨rfl, m2⟩
      have HY2 := Lib.hid (HY1.out.mod (thingS _ _) (thingS _ _) m2)
      clear m2 ua ub
      go_wp2_with fail
      refine (knewest key HY2.out.s HN.out.1).mono ?_
      rintro e Y3 ⟨rfl, m3⟩
      have HY3 := Lib.hid (HY2.out.mod (thingS _ _) (thingS _ _) m3)
      clear m3
      go_wp2_with fail
      refine (knewest key HY3.out.swap.s HN.out.2.1).mono ?_
      rintro e Y4 ⟨rfl, m4⟩
      have HY4 := Lib.hid (HY3.out.mod (thingS _ _) (thingS _ _) m4)
      clear m4
      go_wp2_with fail
      refine (kcount key HY4.out.s HN.out.2.2.1).mono ?_
      rintro e Y5 ⟨rfl, rfl⟩
      go_wp2_with fail
      refine (kcount key HY4.out.swap.s HN.out.2.2.2).mono ?_
      rintro e Y6 ⟨rfl, rfl⟩
      go_wp2
      go_ret
      exact ⟨rfl, H2.out.1.trans HY4.out.m (by simp)⟩
def dovecotelaw09_StoreApart.f (k : Nat) (l0 : List S69) (a1 : ByteArray) (a2_0 a2_1 : Int) : Option Bool := some true
theorem dovecotelaw09_StoreApart.calls (k : Nat) (A0 : Option Addr) (c0 : Nat) (l0 : List S69) (a1 : ByteArray) (a2_0 : Int) (a2_1 : Int) (r : Bool) (w : World) (hr0 : Kd.C k69 w A0 l0.length l0) (hc0 : l0.length ≤ c0) (h : dovecotelaw09_StoreApart.f k l0 a1 a2_0 a2_1 = some r) :
    Calls Try.prog 9 #[.slice A0 l0.length c0, .string a1, .agg #[.int .u64 a2_0, .int .u32 a2_1]] w fun e w' => e = .returned (.bool r) ∧ Below w.heap.size w w' := by
  obtain rfl : true = r := Option.some.inj h
  exact (apart_calls a1 a2_0 a2_1 hr0 hc0).mono fun e w' ⟨h1, h2⟩ => ⟨h1, Mod.bel h2⟩
end Go.Proofs.Ytomcjcoehahikaa.Sto
