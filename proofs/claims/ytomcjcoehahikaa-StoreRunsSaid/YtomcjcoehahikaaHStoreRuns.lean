/- The law StoreRuns walked by hand; a seat's own text. -/
import Derived.Test.YtomcjcoehahikaaStoRefC
import Derived.Deep.LoopGhost
import Derived.Deep.Cut
import Derived.Lib.Hide
import Derived.StillTailTactics
import Derived.Deep.QuietTactic
import Derived.BigQuiet
import Derived.Outline
import Derived.Deep.RegionWith
import Derived.Deep.RegionHeld3
import Derived.WalkLawsBesides
namespace Go.Proofs.Ytomcjcoehahikaa.Sto
open Go.RowKit Go.Proofs.YtomcjcoehahikaaW.PrintWords
set_option linter.unusedVariables false
set_option linter.unusedSimpArgs false
open Go.Proofs.Ytomcjcoehahikaa.Ord Go.Proofs.Ytomcjcoehahikaa.MStoreRuns Go.Proofs.YtomcjcoehahikaaW.PrintLast
/-! StoreRuns -/
theorem two_drop {w W : World} {P Q : World → List Nat → Prop} {p : Nat × Obj} {K : List (Nat × Obj)} (h : Two w W P Q (p :: K)) : Two w W P Q K := by
  obtain ⟨fp, fq, h1, h2, h3, h4, h5, h6, h7⟩ := h
  exact ⟨fp, fq, h1, h2, h3, h4, h5, h6, fun q hq => h7 q (by simp [hq])⟩
def TRPutP (w : World) (P : World → List Nat → Prop) (g : Nat) (L' : St) (K : List (Nat × Obj)) (r : Int) (e : Ending) (W' : World) : Prop := e = .returned (.int .i64 r) ∧ Two w W' P (RS g L') K
theorem trput {w W : World} {g : Nat} {L L' : St} {P : World → List Nat → Prop} {K : List (Nat × Obj)} {r : Int} (tp : Thing P) (key : ByteArray) (a0 a1 a2 a3 : Int) (a4 : ByteArray) (a5 : Bool) (h : Two w W P (RS g L) K) (hs : Sorted L) (hr : AllR L) (hl : L.length ≤ 1000000) (hp : putS L key ⟨⟨a0, a1⟩, ⟨a2, a3⟩, a4, a5⟩ = (L', r)) :
    Calls Try.prog 37 #[.pointer (some ⟨g, 0, none⟩), .string key, .agg #[.int .u64 a0, .int .u32 a1, .int .u32 a2, .int .u32 a3, .string a4, .bool a5]] W (TRPutP w P g L' K r) := by
  obtain ⟨fq, fp, h1, h2, h3, h4, h5, h6, h7⟩ := h.swap
  refine (rputs_calls key a0 a1 a2 a3 a4 a5 h1 hs hr hl hp).mono ?_
  rintro e W' ⟨rfl, h⟩
  exact ⟨rfl, (Two.step (P' := RS g L') tp h2 h3 h4 h5 h6 h7 h).swap⟩
theorem trprune {w W : World} {g : Nat} {L L' : St} {P : World → List Nat → Prop} {K : List (Nat × Obj)} {n : Nat} (tp : Thing P) (t0 t1 : Int) (h : Two w W P (RS g L) K) (hs : Sorted L) (hr : AllR L) (hl : L.length ≤ 1000000) (hp : pruneS L t0 t1 = L') (hn : gone L t0 t1 = n) :
    Calls Try.prog 38 #[.pointer (some ⟨g, 0, none⟩), .agg #[.int .u64 t0, .int .u32 t1]] W (TRPutP w P g L' K n) := by
  obtain ⟨fq, fp, h1, h2, h3, h4, h5, h6, h7⟩ := h.swap
  refine (rprunes_calls t0 t1 h1 hs hr hl hp hn).mono ?_
  rintro e W' ⟨rfl, h⟩
  exact ⟨rfl, (Two.step (P' := RS g L') tp h2 h3 h4 h5 h6 h7 h).swap⟩
theorem OwnS.ref {w W : World} {s : Nat} {L : St} (h : OwnS w W s L) : Two w (W.alloc (.cells #[.slice none 0 0] 76)) (SP s L) (RS W.heap.size []) [] := by
  obtain ⟨fp, h1, h3, h6⟩ := h
  exact Two.of (fq := [W.heap.size]) (thingS s L) h1 h3 h6 ⟨none, 0, [], blk_new W _, Kd.R_nil _ _ _ _ _, by simp, by simp, rfl⟩ (by simp) ((Mod.refl W []).alloc _)
theorem blk10 {W : World} {q : Nat} {c0 c1 c2 c3 c4 c5 c6 c7 c8 c9 : Value} {t : Nat} (h : W.heap[q]? = some (.cells #[c0, c1, c2, c3, c4, c5, c6, c7, c8, c9] t)) :
    W.cell? ⟨q, 0, none⟩ = some c0 ∧ W.cell? ⟨q, 1, none⟩ = some c1 ∧ W.cell? ⟨q, 2, none⟩ = some c2 ∧ W.cell? ⟨q, 3, none⟩ = some c3 ∧ W.cell? ⟨q, 4, none⟩ = some c4 ∧ W.cell? ⟨q, 5, none⟩ = some c5 ∧ W.cell? ⟨q, 6, none⟩ = some c6 ∧ W.cell? ⟨q, 7, none⟩ = some c7 ∧ W.cell? ⟨q, 8, none⟩ = some c8 ∧ W.cell? ⟨q, 9, none⟩ = some c9 :=
  ⟨(blk_cell h 0).trans rfl, (blk_cell h 1).trans rfl, (blk_cell h 2).trans rfl, (blk_cell h 3).trans rfl, (blk_cell h 4).trans rfl, (blk_cell h 5).trans rfl, (blk_cell h 6).trans rfl, (blk_cell h 7).trans rfl, (blk_cell h 8).trans rfl, (blk_cell h 9).trans rfl⟩
theorem k_mod {W W' : World} {ok : Nat → Prop} {v : Value} {l : List S56} (h : k56.R 56 W 0 ok v l) (m : Mod W W' []) : k56.R 56 W' 0 ok v l := Kd.R_step h (fun k hk hlt => m.block k hlt (by simp))
theorem scanS_le (L : St) (lo hi : ByteArray) (t0 t1 limit : Int) : (scanS L lo hi t0 t1 limit).length ≤ 1000 := by
  have h := scanA_le L (rangeL L lo hi) t0 t1 (min limit 32).toNat
  unfold scanS
  omega
theorem trget {w W : World} {g : Nat} {L : St} {P : World → List Nat → Prop} {K : List (Nat × Obj)} {x : ByteArray} {b : Bool} (key : ByteArray) (t0 t1 : Int) (h : Two w W P (RS g L) K) (hs : Sorted L) (hr : AllR L) (hl : L.length ≤ 1000000) (hx : getS L key t0 t1 = (x, b)) : Calls Try.prog 39 #[.pointer (some ⟨g, 0, none⟩), .string key, .agg #[.int .u64 t0, .int .u32 t1]] W (OGetP W x b) := by
  obtain ⟨fq, fp, h1, h2, h3, h4, h5, h6, h7⟩ := h.swap
  refine (rget_calls key t0 t1 h1 hs hr hl).mono ?_
  rintro e W' ⟨rfl, h⟩
  rw [hx]
  exact ⟨rfl, h⟩
theorem trnewest {w W : World} {g : Nat} {L : St} {P : World → List Nat → Prop} {K : List (Nat × Obj)} {n : Int × Int} (key : ByteArray) (h : Two w W P (RS g L) K) (hs : Sorted L) (hr : AllR L) (hl : L.length ≤ 1000000) (hn : nwC (chOf L key) = n) : Calls Try.prog 40 #[.pointer (some ⟨g, 0, none⟩), .string key] W (NewestP W n) := by
  obtain ⟨fq, fp, h1, h2, h3, h4, h5, h6, h7⟩ := h.swap
  exact rnewest_calls key h1 hs hr hl hn
theorem trcount {w W : World} {g : Nat} {L : St} {P : World → List Nat → Prop} {K : List (Nat × Obj)} {n : Nat} (key : ByteArray) (h : Two w W P (RS g L) K) (hs : Sorted L) (hl : L.length ≤ 1000000) (hn : (chOf L key).length = n) : Calls Try.prog 41 #[.pointer (some ⟨g, 0, none⟩), .string key] W fun e W' => e = .returned (.int .i64 n) ∧ W' = W := by
  obtain ⟨fq, fp, h1, h2, h3, h4, h5, h6, h7⟩ := h.swap
  exact rcount_calls key h1 hs hl hn
theorem trscan {w W : World} {g : Nat} {L : St} {P : World → List Nat → Prop} {K : List (Nat × Obj)} {r : List S60} (lo hi : ByteArray) (t0 t1 limit : Int) (h : Two w W P (RS g L) K) (hs : Sorted L) (hr : AllR L) (hl : L.length ≤ 1000000) (hS : scanS L lo hi t0 t1 limit = r) : Calls Try.prog 42 #[.pointer (some ⟨g, 0, none⟩), .string lo, .string hi, .agg #[.int .u64 t0, .int .u32 t1], .int .i64 limit] W (ScanP W r) := by
  obtain ⟨fq, fp, h1, h2, h3, h4, h5, h6, h7⟩ := h.swap
  exact rscan_calls lo hi t0 t1 limit h1 hs hr hl hS
set_option maxRecDepth 100000 in
set_option maxHeartbeats 16000000 in
theorem runs_calls {W : World} {A : Option Addr} {c : Nat} {l : List S69} (hr : Kd.C k69 W A l.length l) (hc : l.length ≤ c) :
    Calls Try.prog 11 #[.slice A l.length c] W (AwkP W) := by
  have HR := Lib.hid (And.intro hr hc)
  clear hr hc
  go_enter Try.func11, Try.ntmps11
  go_wp2_with fail
  refine awake_calls.mono ?_
  rintro e W2 ⟨rfl, m2⟩
  have H2 := Lib.hid (And.intro m2 (Kd.C_below HR.out.1 (Mod.bel m2)))
  clear m2
  go_wp2_with fail
  refine (onew (w := W2) (Mod.refl W2 [])).mono ?_
  rintro e W3 ⟨sa, rfl, h3⟩
  have H4 := Lib.hid h3.ref
  clear h3
  go_wp2_with fail
  generalize W3.alloc (.cells #[.slice none 0 0] 76) = W4 at H4 ⊢
  generalize W3.heap.size = g at H4 ⊢
  go_loopg [18] l.length (fun k i wr => ∃ (j : Nat) (L : St), j ≤ l.length ∧ k = l.length - j ∧ i = .int .i64 j ∧ j ≤ 150 ∧ Two W2 wr (SP sa L) (RS g L) [] ∧ L.length ≤ j)
  case atStart => exact ⟨0, [], Nat.zero_le _, rfl, rfl, by omega, H4.out, by simp⟩
  case round =>
    obtain ⟨j, L, hj, rfl, rfl, hj3, hT, hl1⟩ := hrel
    have HT := Lib.hid hT
    clear hT
    by_cases hjl : j < l.length
    · obtain ⟨ad, rfl, a0, a1, a2, a3, a4, a5, a6, a7, a8, a9⟩ := act_cells (Kd.C_below H2.out.2 (Mod.bel HT.out.m)) j hjl
      have hjz : (j : Int) < (l.length : Int) := by omega
      by_cases h3 : j = 150
      · subst h3
        have e5 : ad.add (150 * 10) = ⟨ad.block, ad.off + 1500, none⟩ := by simp [Addr.add]
        rw [e5] at a0 a1 a2 a3 a4 a5 a6 a7 a8 a9
        dsimp only at a0 a1 a2 a3 a4 a5 a6 a7 a8 a9
        have HZ := Lib.hid (HT.out.alloc (thingS _ _) (thingRS _ _) (.cells #[.int .i64 l[150].f0, .int .i64 l[150].f1, .string l[150].f2, .string l[150].f3, .int .u64 l[150].f4.f0.f0, .int .u32 l[150].f4.f0.f1, .int .u32 l[150].f4.f1.f0, .int .u32 l[150].f4.f1.f1, .string l[150].f4.f2, .bool l[150].f4.f3] 69))
        generalize l[150] = x at *
        obtain ⟨x0, x1, x2, x3, ⟨⟨v0, v1⟩, ⟨v2, v3⟩, v4, v5⟩⟩ := x
        dsimp only at a0 a1 a2 a3 a4 a5 a6 a7 a8 a9 HZ ⊢
        go_upto_region 7 with fail
        generalize wr.alloc (.cells #[.int .i64 x0, .int .i64 x1, .string x2, .string x3, .int .u64 v0, .int .u32 v1, .int .u32 v2, .int .u32 v3, .string v4, .bool v5] 69) = Z at HZ ⊢
        generalize wr.heap.size = q at HZ ⊢
        obtain ⟨fq, fp, z1, ⟨Ag, cg, rfp, zg, zr, zn, zl, rfl⟩, z3, z4, z5, z6, z7⟩ := HZ.out
        have G0 : Z.cell? ⟨g, 0, none⟩ = some (.slice Ag L.length cg) := (blk_cell zg 0).trans rfl
        have HG := Lib.hid (And.intro zr (And.intro HZ.out.s.right HZ.out.s.m))
        have hLn : L.length ≤ 1000000 := by omega
        have HL := Lib.hid hLn
        clear z1 zg zr zn zl z3 z4 z5 z6 z7 hLn
        go_upto_region 20 with fail
        go_region_held3 (fun w' => w'.cell? ⟨g, 0, none⟩ = some (.slice Ag L.length cg)) (go_keep) (first
          | (go_at_call 28
             refine (kitems (HZ.out.mod (thingS _ _) (thingRS _ _) (by (with_reducible repeat (first | exact Mod.refl _ _ | refine Mod.alloc ?_ _ | refine Mod.drewN ?_ _ | refine Mod.drew ?_)))).s HL.out).mono ?_
             rintro e Z1 ⟨A1, c1, rfl, r1, m1⟩
             rw [itemsL_len] at r1 ⊢
             have n1 : Mod Z Z1 [] := (show Mod Z _ [] by (with_reducible repeat (first | exact Mod.refl _ _ | refine Mod.alloc ?_ _ | refine Mod.drewN ?_ _ | refine Mod.drew ?_))).trans m1 (by simp)
             have G1 := Mod.cellN n1 G0 (by simp)
             have R1 := Lib.hid (And.intro n1 r1)
             clear m1 n1 r1)
          | (go_at_call 43
             refine (rsame9_calls (k_mod R1.out.2 (by (with_reducible repeat (first | exact Mod.refl _ _ | refine Mod.alloc ?_ _ | refine Mod.drewN ?_ _ | refine Mod.drew ?_)))) (k_mod (k_mod HG.out.1 R1.out.1) (by (with_reducible repeat (first | exact Mod.refl _ _ | refine Mod.alloc ?_ _ | refine Mod.drewN ?_ _ | refine Mod.drew ?_)))) HG.out.2.1 HL.out).mono ?_
             rintro e Z2 ⟨rfl, m2⟩
             have n2 : Mod Z Z2 [] := R1.out.1.trans ((show Mod Z1 _ [] by (with_reducible repeat (first | exact Mod.refl _ _ | refine Mod.alloc ?_ _ | refine Mod.drewN ?_ _ | refine Mod.drew ?_))).trans m2 (by simp)) (by simp)
             have G2 := Mod.cellN n2 G0 (by simp)
             have R2 := Lib.hid n2
             clear m2 n2))
        all_goals
          go_wp2
          go_ret
          exact ⟨rfl, H2.out.1.trans (HG.out.2.2.trans R2.out (by simp)) (by simp)⟩
      · have h3z : ¬ ((j : Int) = 150) := by omega
        have h3b : ((j : Int) == 150) = false := by simpa using h3z
        have hw : IntKind.i64.wrap ((j : Int) + 1) = ((j + 1 : Nat) : Int) := by rw [i64w (by omega) (by omega)]; omega
        have HV := Lib.hid (HT.out.alloc (thingS _ _) (thingRS _ _) (.cells #[.int .i64 l[j].f0, .int .i64 l[j].f1, .string l[j].f2, .string l[j].f3, .int .u64 l[j].f4.f0.f0, .int .u32 l[j].f4.f0.f1, .int .u32 l[j].f4.f1.f0, .int .u32 l[j].f4.f1.f1, .string l[j].f4.f2, .bool l[j].f4.f3] 69))
        generalize l[j] = x at *
        obtain ⟨x0, x1, x2, x3, ⟨⟨v0, v1⟩, ⟨v2, v3⟩, v4, v5⟩⟩ := x
        dsimp only at a0 a1 a2 a3 a4 a5 a6 a7 a8 a9 HV ⊢
        go_upto_region 8 with fail
        generalize wr.alloc (.cells #[.int .i64 x0, .int .i64 x1, .string x2, .string x3, .int .u64 v0, .int .u32 v1, .int .u32 v2, .int .u32 v3, .string v4, .bool v5] 69) = Y0 at HV ⊢
        generalize hqe : wr.heap.size = q at HV ⊢
        have HQE := Lib.hid hqe
        clear hqe a0 a1 a2 a3 a4 a5 a6 a7 a8 a9
        obtain ⟨e0_a, e1_a, e2_a, e3_a, e4_a, e5_a, e6_a, e7_a, e8_a, e9_a⟩ := blk10 (HV.out.at (b := q) (o := .cells #[.int .i64 x0, .int .i64 x1, .string x2, .string x3, .int .u64 v0, .int .u32 v1, .int .u32 v2, .int .u32 v3, .string v4, .bool v5] 69) (by simp))
        by_cases p0 : x0 = 0
        · have p0b : (x0 == 0) = true := by simpa using p0
          clear p0
          obtain ⟨L', r1, hq1⟩ : ∃ L' r, putS L x2 ⟨⟨v0, v1⟩, ⟨v2, v3⟩, v4, v5⟩ = (L', r) := ⟨_, _, rfl⟩
          have hg1 := putS_len L x2 ⟨⟨v0, v1⟩, ⟨v2, v3⟩, v4, v5⟩
          rw [hq1] at hg1
          dsimp only at hg1
          have HQ := Lib.hid (And.intro hq1 (And.intro HV.out.s.sorted HV.out.s.right))
          clear hq1
          go_upto_region 10 with fail
          go_region_held3 (fun w' => w'.cell? ⟨q, 0, none⟩ = some (.int .i64 x0) ∧ w'.cell? ⟨q, 1, none⟩ = some (.int .i64 x1) ∧ w'.cell? ⟨q, 2, none⟩ = some (.string x2) ∧ w'.cell? ⟨q, 3, none⟩ = some (.string x3) ∧ w'.cell? ⟨q, 4, none⟩ = some (.int .u64 v0) ∧ w'.cell? ⟨q, 5, none⟩ = some (.int .u32 v1) ∧ w'.cell? ⟨q, 6, none⟩ = some (.int .u32 v2) ∧ w'.cell? ⟨q, 7, none⟩ = some (.int .u32 v3) ∧ w'.cell? ⟨q, 8, none⟩ = some (.string v4) ∧ w'.cell? ⟨q, 9, none⟩ = some (.bool v5)) (go_keep) (first
            | (go_at_call 33
               refine (tput (thingRS _ _) x2 v0 v1 v2 v3 v4 v5 (HV.out.mod (thingS _ _) (thingRS _ _) (by (with_reducible repeat (first | exact Mod.refl _ _ | refine Mod.alloc ?_ _ | refine Mod.drewN ?_ _ | refine Mod.drew ?_)))) (by omega) HQ.out.1).mono ?_
               rintro e Y1 ⟨rfl, h1⟩
               obtain ⟨e0_b, e1_b, e2_b, e3_b, e4_b, e5_b, e6_b, e7_b, e8_b, e9_b⟩ := blk10 (h1.at (b := q) (o := .cells #[.int .i64 x0, .int .i64 x1, .string x2, .string x3, .int .u64 v0, .int .u32 v1, .int .u32 v2, .int .u32 v3, .string v4, .bool v5] 69) (by simp))
               have H1 := Lib.hid h1
               clear h1)
            | (go_at_call 37
               refine (trput (thingS _ _) x2 v0 v1 v2 v3 v4 v5 (H1.out.mod (thingS _ _) (thingRS _ _) (by (with_reducible repeat (first | exact Mod.refl _ _ | refine Mod.alloc ?_ _ | refine Mod.drewN ?_ _ | refine Mod.drew ?_)))) HQ.out.2.1 HQ.out.2.2 (by omega) HQ.out.1).mono ?_
               rintro e Y2 ⟨rfl, h5⟩
               obtain ⟨e0_c, e1_c, e2_c, e3_c, e4_c, e5_c, e6_c, e7_c, e8_c, e9_c⟩ := blk10 (h5.at (b := q) (o := .cells #[.int .i64 x0, .int .i64 x1, .string x2, .string x3, .int .u64 v0, .int .u32 v1, .int .u32 v2, .int .u32 v3, .string v4, .bool v5] 69) (by simp))
               have H5 := Lib.hid h5
               clear h5))
          have hM : L'.length ≤ j + 1 := by omega
          have HM := Lib.hid (And.intro H5.out.s.sorted H5.out.s.right)
          clear H1 HV HQ hg1 e0_a e1_a e2_a e3_a e4_a e5_a e6_a e7_a e8_a e9_a e0_b e1_b e2_b e3_b e4_b e5_b e6_b e7_b e8_b e9_b
          generalize L' = M at *
          obtain ⟨y5, b5, hx⟩ : ∃ x b, getS M x2 v0 v1 = (x, b) := ⟨_, _, rfl⟩
          have HX := Lib.hid hx
          obtain ⟨n1, n2, hn⟩ : ∃ a b, nwC (chOf M x2) = (a, b) := ⟨_, _, rfl⟩
          obtain ⟨cn, hcn⟩ : ∃ a, (chOf M x2).length = a := ⟨_, rfl⟩
          obtain ⟨T, hT⟩ : ∃ T, scanS M x2 x3 v0 v1 x1 = T := ⟨_, rfl⟩
          have hTl : T.length ≤ 1000 := by rw [← hT]; exact scanS_le _ _ _ _ _ _
          have HN := Lib.hid (And.intro hn (And.intro hcn (And.intro hT (And.intro hTl hM))))
          clear hx hn hcn hT hTl hM
          go_wp2_with fail
          refine (oget x2 v0 v1 H5.out.s HX.out).mono ?_
          rintro e Y3 ⟨rfl, m3⟩
          have h6 := H5.out.mod (thingS _ _) (thingRS _ _) m3
          clear e0_c e1_c e2_c e3_c e4_c e5_c e6_c e7_c e8_c e9_c
          obtain ⟨e0_d, e1_d, e2_d, e3_d, e4_d, e5_d, e6_d, e7_d, e8_d, e9_d⟩ := blk10 (h6.at (b := q) (o := .cells #[.int .i64 x0, .int .i64 x1, .string x2, .string x3, .int .u64 v0, .int .u32 v1, .int .u32 v2, .int .u32 v3, .string v4, .bool v5] 69) (by simp))
          have H6 := Lib.hid h6
          clear h6 m3
          go_wp2_with fail
          refine (trget x2 v0 v1 H6.out HM.out.1 HM.out.2 (by have := HN.out.2.2.2.2; omega) HX.out).mono ?_
          rintro e Y4 ⟨rfl, m4⟩
          have h7 := H6.out.mod (thingS _ _) (thingRS _ _) m4
          clear e0_d e1_d e2_d e3_d e4_d e5_d e6_d e7_d e8_d e9_d
          obtain ⟨e0_f, e1_f, e2_f, e3_f, e4_f, e5_f, e6_f, e7_f, e8_f, e9_f⟩ := blk10 (h7.at (b := q) (o := .cells #[.int .i64 x0, .int .i64 x1, .string x2, .string x3, .int .u64 v0, .int .u32 v1, .int .u32 v2, .int .u32 v3, .string v4, .bool v5] 69) (by simp))
          have H7 := Lib.hid h7
          clear h7 m4
          go_upto_region 17 with fail
          go_region_held3 (fun w' => w'.cell? ⟨q, 0, none⟩ = some (.int .i64 x0) ∧ w'.cell? ⟨q, 1, none⟩ = some (.int .i64 x1) ∧ w'.cell? ⟨q, 2, none⟩ = some (.string x2) ∧ w'.cell? ⟨q, 3, none⟩ = some (.string x3) ∧ w'.cell? ⟨q, 4, none⟩ = some (.int .u64 v0) ∧ w'.cell? ⟨q, 5, none⟩ = some (.int .u32 v1) ∧ w'.cell? ⟨q, 6, none⟩ = some (.int .u32 v2) ∧ w'.cell? ⟨q, 7, none⟩ = some (.int .u32 v3) ∧ w'.cell? ⟨q, 8, none⟩ = some (.string v4) ∧ w'.cell? ⟨q, 9, none⟩ = some (.bool v5)) (go_keep) (first
            | (go_at_call 31
               refine (pairs_calls (l := T) (by have := HN.out.2.2.2.1; omega) rfl HE.out.2.1 ?_ rfl HE.out.2.2.2.1 ?_).mono ?_
               · first | exact HE.out.2.2.1 | exact Kd.C_drewN HE.out.2.2.1 _ | exact Kd.C_drew HE.out.2.2.1
               · first | exact HE.out.2.2.2.2 | exact Kd.C_drewN HE.out.2.2.2.2 _ | exact Kd.C_drew HE.out.2.2.2.2
               rintro e Y9 ⟨rfl, m9⟩
               have h17 := HE.out.1.mod (thingS _ _) (thingRS _ _) ((show Mod _ _ [] by (with_reducible repeat (first | exact Mod.refl _ _ | refine Mod.alloc ?_ _ | refine Mod.drewN ?_ _ | refine Mod.drew ?_))).trans m9 (by simp))
               obtain ⟨e0_k, e1_k, e2_k, e3_k, e4_k, e5_k, e6_k, e7_k, e8_k, e9_k⟩ := blk10 (h17.at (b := q) (o := .cells #[.int .i64 x0, .int .i64 x1, .string x2, .string x3, .int .u64 v0, .int .u32 v1, .int .u32 v2, .int .u32 v3, .string v4, .bool v5] 69) (by simp))
               have H9 := Lib.hid h17
               clear m9 h17)
            | (go_at_call 32
               refine (knewest x2 (H7.out.mod (thingS _ _) (thingRS _ _) (by (with_reducible repeat (first | exact Mod.refl _ _ | refine Mod.alloc ?_ _ | refine Mod.drewN ?_ _ | refine Mod.drew ?_)))).s HN.out.1).mono ?_
               rintro e Y5 ⟨rfl, m5⟩
               have h8 := H7.out.mod (thingS _ _) (thingRS _ _) ((show Mod _ _ [] by (with_reducible repeat (first | exact Mod.refl _ _ | refine Mod.alloc ?_ _ | refine Mod.drewN ?_ _ | refine Mod.drew ?_))).trans m5 (by simp))
               obtain ⟨e0_g, e1_g, e2_g, e3_g, e4_g, e5_g, e6_g, e7_g, e8_g, e9_g⟩ := blk10 (h8.at (b := q) (o := .cells #[.int .i64 x0, .int .i64 x1, .string x2, .string x3, .int .u64 v0, .int .u32 v1, .int .u32 v2, .int .u32 v3, .string v4, .bool v5] 69) (by simp))
               have H8 := Lib.hid h8
               clear m5 h8)
            | (go_at_call 40
               refine (trnewest x2 (H8.out.mod (thingS _ _) (thingRS _ _) (by (with_reducible repeat (first | exact Mod.refl _ _ | refine Mod.alloc ?_ _ | refine Mod.drewN ?_ _ | refine Mod.drew ?_)))) HM.out.1 HM.out.2 (by have := HN.out.2.2.2.2; omega) HN.out.1).mono ?_
               rintro e Y6 ⟨rfl, m6⟩
               have hb := H8.out.mod (thingS _ _) (thingRS _ _) ((show Mod _ _ [] by (with_reducible repeat (first | exact Mod.refl _ _ | refine Mod.alloc ?_ _ | refine Mod.drewN ?_ _ | refine Mod.drew ?_))).trans m6 (by simp))
               obtain ⟨e0_h, e1_h, e2_h, e3_h, e4_h, e5_h, e6_h, e7_h, e8_h, e9_h⟩ := blk10 (hb.at (b := q) (o := .cells #[.int .i64 x0, .int .i64 x1, .string x2, .string x3, .int .u64 v0, .int .u32 v1, .int .u32 v2, .int .u32 v3, .string v4, .bool v5] 69) (by simp))
               have HB := Lib.hid hb
               clear m6 hb)
            | (go_at_call 35
               refine (kcount x2 (HB.out.mod (thingS _ _) (thingRS _ _) (by (with_reducible repeat (first | exact Mod.refl _ _ | refine Mod.alloc ?_ _ | refine Mod.drewN ?_ _ | refine Mod.drew ?_)))).s HN.out.2.1).mono ?_
               rintro e W' ⟨rfl, rfl⟩)
            | (go_at_call 41
               refine (trcount x2 (HB.out.mod (thingS _ _) (thingRS _ _) (by (with_reducible repeat (first | exact Mod.refl _ _ | refine Mod.alloc ?_ _ | refine Mod.drewN ?_ _ | refine Mod.drew ?_)))) HM.out.1 (by have := HN.out.2.2.2.2; omega) HN.out.2.1).mono ?_
               rintro e W' ⟨rfl, rfl⟩)
            | (go_at_call 30
               refine (oscan x2 x3 v0 v1 x1 (HB.out.mod (thingS _ _) (thingRS _ _) (by (with_reducible repeat (first | exact Mod.refl _ _ | refine Mod.alloc ?_ _ | refine Mod.drewN ?_ _ | refine Mod.drew ?_)))).s (by have := HN.out.2.2.2.2; omega) HN.out.2.2.1).mono ?_
               rintro e Y7 ⟨A7, c7, rfl, r7, b7, m7⟩
               have hd := HB.out.mod (thingS _ _) (thingRS _ _) ((show Mod _ _ [] by (with_reducible repeat (first | exact Mod.refl _ _ | refine Mod.alloc ?_ _ | refine Mod.drewN ?_ _ | refine Mod.drew ?_))).trans m7 (by simp))
               obtain ⟨e0_i, e1_i, e2_i, e3_i, e4_i, e5_i, e6_i, e7_i, e8_i, e9_i⟩ := blk10 (hd.at (b := q) (o := .cells #[.int .i64 x0, .int .i64 x1, .string x2, .string x3, .int .u64 v0, .int .u32 v1, .int .u32 v2, .int .u32 v3, .string v4, .bool v5] 69) (by simp))
               obtain ⟨A', c', e', g7, C7⟩ := r7.C
               injection e' with e1 _ e3
               subst e1
               subst e3
               have HD := Lib.hid (And.intro hd (And.intro g7 C7))
               clear m7 hd r7 b7 g7 C7)
            | (go_at_call 42
               refine (trscan x2 x3 v0 v1 x1 (HD.out.1.mod (thingS _ _) (thingRS _ _) (by (with_reducible repeat (first | exact Mod.refl _ _ | refine Mod.alloc ?_ _ | refine Mod.drewN ?_ _ | refine Mod.drew ?_)))) HM.out.1 HM.out.2 (by have := HN.out.2.2.2.2; omega) HN.out.2.2.1).mono ?_
               rintro e Y8 ⟨A8, c8, rfl, r8, b8, m8⟩
               have n8 := ((show Mod Y7 _ [] by (with_reducible repeat (first | exact Mod.refl _ _ | refine Mod.alloc ?_ _ | refine Mod.drewN ?_ _ | refine Mod.drew ?_))).trans m8 (by simp))
               have he := HD.out.1.mod (thingS _ _) (thingRS _ _) n8
               obtain ⟨e0_j, e1_j, e2_j, e3_j, e4_j, e5_j, e6_j, e7_j, e8_j, e9_j⟩ := blk10 (he.at (b := q) (o := .cells #[.int .i64 x0, .int .i64 x1, .string x2, .string x3, .int .u64 v0, .int .u32 v1, .int .u32 v2, .int .u32 v3, .string v4, .bool v5] 69) (by simp))
               obtain ⟨A', c', e', g8, C8⟩ := r8.C
               injection e' with e1 _ e3
               subst e1
               subst e3
               have HE := Lib.hid (And.intro he (And.intro HD.out.2.1 (And.intro (Kd.C_below HD.out.2.2 (Mod.bel n8)) (And.intro g8 C8))))
               clear m8 he n8 r8 b8 g8 C8))
          all_goals
            have hM := HN.out.2.2.2.2
            go_wp2
            go_roundg (l.length - (j + 1))
            case measure => omega
            case rel => exact ⟨j + 1, M, by omega, rfl, by rw [show ((j + 1 : Nat) : Int) = (j : Int) + 1 by omega], by omega, two_drop H9.out, hM⟩
        · have p0b : (x0 == 0) = false := by simpa using p0
          clear p0
          by_cases p1 : x0 = 1
          · have p1b : (x0 == 1) = true := by simpa using p1
            clear p1
            obtain ⟨M, hq1⟩ : ∃ M, pruneS L v0 v1 = M := ⟨_, rfl⟩
            obtain ⟨n, hq2⟩ : ∃ n, gone L v0 v1 = n := ⟨_, rfl⟩
            have hg1 := prune_length L v0 v1
            rw [hq1] at hg1
            have HQ := Lib.hid (And.intro hq1 (And.intro hq2 (And.intro HV.out.s.sorted HV.out.s.right)))
            clear hq1 hq2
            go_upto_region 13 with fail
            go_region_held3 (fun w' => w'.cell? ⟨q, 0, none⟩ = some (.int .i64 x0) ∧ w'.cell? ⟨q, 1, none⟩ = some (.int .i64 x1) ∧ w'.cell? ⟨q, 2, none⟩ = some (.string x2) ∧ w'.cell? ⟨q, 3, none⟩ = some (.string x3) ∧ w'.cell? ⟨q, 4, none⟩ = some (.int .u64 v0) ∧ w'.cell? ⟨q, 5, none⟩ = some (.int .u32 v1) ∧ w'.cell? ⟨q, 6, none⟩ = some (.int .u32 v2) ∧ w'.cell? ⟨q, 7, none⟩ = some (.int .u32 v3) ∧ w'.cell? ⟨q, 8, none⟩ = some (.string v4) ∧ w'.cell? ⟨q, 9, none⟩ = some (.bool v5)) (go_keep) (first
              | (go_at_call 36
                 refine (tprune (thingRS _ _) v0 v1 (HV.out.mod (thingS _ _) (thingRS _ _) (by (with_reducible repeat (first | exact Mod.refl _ _ | refine Mod.alloc ?_ _ | refine Mod.drewN ?_ _ | refine Mod.drew ?_)))) (by omega) HQ.out.1 HQ.out.2.1).mono ?_
                 rintro e Y1 ⟨rfl, h1⟩
                 obtain ⟨e0_b, e1_b, e2_b, e3_b, e4_b, e5_b, e6_b, e7_b, e8_b, e9_b⟩ := blk10 (h1.at (b := q) (o := .cells #[.int .i64 x0, .int .i64 x1, .string x2, .string x3, .int .u64 v0, .int .u32 v1, .int .u32 v2, .int .u32 v3, .string v4, .bool v5] 69) (by simp))
                 have H1 := Lib.hid h1
                 clear h1)
              | (go_at_call 38
                 refine (trprune (thingS _ _) v0 v1 (H1.out.mod (thingS _ _) (thingRS _ _) (by (with_reducible repeat (first | exact Mod.refl _ _ | refine Mod.alloc ?_ _ | refine Mod.drewN ?_ _ | refine Mod.drew ?_)))) HQ.out.2.2.1 HQ.out.2.2.2 (by omega) HQ.out.1 HQ.out.2.1).mono ?_
                 rintro e Y2 ⟨rfl, h5⟩
                 obtain ⟨e0_c, e1_c, e2_c, e3_c, e4_c, e5_c, e6_c, e7_c, e8_c, e9_c⟩ := blk10 (h5.at (b := q) (o := .cells #[.int .i64 x0, .int .i64 x1, .string x2, .string x3, .int .u64 v0, .int .u32 v1, .int .u32 v2, .int .u32 v3, .string v4, .bool v5] 69) (by simp))
                 have H5 := Lib.hid h5
                 clear h5))
            have hM : M.length ≤ j + 1 := by omega
            have HM := Lib.hid (And.intro H5.out.s.sorted H5.out.s.right)
            clear H1 HV HQ hg1 e0_a e1_a e2_a e3_a e4_a e5_a e6_a e7_a e8_a e9_a e0_b e1_b e2_b e3_b e4_b e5_b e6_b e7_b e8_b e9_b
            obtain ⟨y5, b5, hx⟩ : ∃ x b, getS M x2 v0 v1 = (x, b) := ⟨_, _, rfl⟩
            have HX := Lib.hid hx
            obtain ⟨n1, n2, hn⟩ : ∃ a b, nwC (chOf M x2) = (a, b) := ⟨_, _, rfl⟩
            obtain ⟨cn, hcn⟩ : ∃ a, (chOf M x2).length = a := ⟨_, rfl⟩
            obtain ⟨T, hT⟩ : ∃ T, scanS M x2 x3 v0 v1 x1 = T := ⟨_, rfl⟩
            have hTl : T.length ≤ 1000 := by rw [← hT]; exact scanS_le _ _ _ _ _ _
            have HN := Lib.hid (And.intro hn (And.intro hcn (And.intro hT (And.intro hTl hM))))
            clear hx hn hcn hT hTl hM
            go_wp2_with fail
            refine (oget x2 v0 v1 H5.out.s HX.out).mono ?_
            rintro e Y3 ⟨rfl, m3⟩
            have h6 := H5.out.mod (thingS _ _) (thingRS _ _) m3
            clear e0_c e1_c e2_c e3_c e4_c e5_c e6_c e7_c e8_c e9_c
            obtain ⟨e0_d, e1_d, e2_d, e3_d, e4_d, e5_d, e6_d, e7_d, e8_d, e9_d⟩ := blk10 (h6.at (b := q) (o := .cells #[.int .i64 x0, .int .i64 x1, .string x2, .string x3, .int .u64 v0, .int .u32 v1, .int .u32 v2, .int .u32 v3, .string v4, .bool v5] 69) (by simp))
            have H6 := Lib.hid h6
            clear h6 m3
            go_wp2_with fail
            refine (trget x2 v0 v1 H6.out HM.out.1 HM.out.2 (by have := HN.out.2.2.2.2; omega) HX.out).mono ?_
            rintro e Y4 ⟨rfl, m4⟩
            have h7 := H6.out.mod (thingS _ _) (thingRS _ _) m4
            clear e0_d e1_d e2_d e3_d e4_d e5_d e6_d e7_d e8_d e9_d
            obtain ⟨e0_f, e1_f, e2_f, e3_f, e4_f, e5_f, e6_f, e7_f, e8_f, e9_f⟩ := blk10 (h7.at (b := q) (o := .cells #[.int .i64 x0, .int .i64 x1, .string x2, .string x3, .int .u64 v0, .int .u32 v1, .int .u32 v2, .int .u32 v3, .string v4, .bool v5] 69) (by simp))
            have H7 := Lib.hid h7
            clear h7 m4
            go_upto_region 17 with fail
            go_region_held3 (fun w' => w'.cell? ⟨q, 0, none⟩ = some (.int .i64 x0) ∧ w'.cell? ⟨q, 1, none⟩ = some (.int .i64 x1) ∧ w'.cell? ⟨q, 2, none⟩ = some (.string x2) ∧ w'.cell? ⟨q, 3, none⟩ = some (.string x3) ∧ w'.cell? ⟨q, 4, none⟩ = some (.int .u64 v0) ∧ w'.cell? ⟨q, 5, none⟩ = some (.int .u32 v1) ∧ w'.cell? ⟨q, 6, none⟩ = some (.int .u32 v2) ∧ w'.cell? ⟨q, 7, none⟩ = some (.int .u32 v3) ∧ w'.cell? ⟨q, 8, none⟩ = some (.string v4) ∧ w'.cell? ⟨q, 9, none⟩ = some (.bool v5)) (go_keep) (first
              | (go_at_call 31
                 refine (pairs_calls (l := T) (by have := HN.out.2.2.2.1; omega) rfl HE.out.2.1 ?_ rfl HE.out.2.2.2.1 ?_).mono ?_
                 · first | exact HE.out.2.2.1 | exact Kd.C_drewN HE.out.2.2.1 _ | exact Kd.C_drew HE.out.2.2.1
                 · first | exact HE.out.2.2.2.2 | exact Kd.C_drewN HE.out.2.2.2.2 _ | exact Kd.C_drew HE.out.2.2.2.2
                 rintro e Y9 ⟨rfl, m9⟩
                 have h17 := HE.out.1.mod (thingS _ _) (thingRS _ _) ((show Mod _ _ [] by (with_reducible repeat (first | exact Mod.refl _ _ | refine Mod.alloc ?_ _ | refine Mod.drewN ?_ _ | refine Mod.drew ?_))).trans m9 (by simp))
                 obtain ⟨e0_k, e1_k, e2_k, e3_k, e4_k, e5_k, e6_k, e7_k, e8_k, e9_k⟩ := blk10 (h17.at (b := q) (o := .cells #[.int .i64 x0, .int .i64 x1, .string x2, .string x3, .int .u64 v0, .int .u32 v1, .int .u32 v2, .int .u32 v3, .string v4, .bool v5] 69) (by simp))
                 have H9 := Lib.hid h17
                 clear m9 h17)
              | (go_at_call 32
                 refine (knewest x2 (H7.out.mod (thingS _ _) (thingRS _ _) (by (with_reducible repeat (first | exact Mod.refl _ _ | refine Mod.alloc ?_ _ | refine Mod.drewN ?_ _ | refine Mod.drew ?_)))).s HN.out.1).mono ?_
                 rintro e Y5 ⟨rfl, m5⟩
                 have h8 := H7.out.mod (thingS _ _) (thingRS _ _) ((show Mod _ _ [] by (with_reducible repeat (first | exact Mod.refl _ _ | refine Mod.alloc ?_ _ | refine Mod.drewN ?_ _ | refine Mod.drew ?_))).trans m5 (by simp))
                 obtain ⟨e0_g, e1_g, e2_g, e3_g, e4_g, e5_g, e6_g, e7_g, e8_g, e9_g⟩ := blk10 (h8.at (b := q) (o := .cells #[.int .i64 x0, .int .i64 x1, .string x2, .string x3, .int .u64 v0, .int .u32 v1, .int .u32 v2, .int .u32 v3, .string v4, .bool v5] 69) (by simp))
                 have H8 := Lib.hid h8
                 clear m5 h8)
              | (go_at_call 40
                 refine (trnewest x2 (H8.out.mod (thingS _ _) (thingRS _ _) (by (with_reducible repeat (first | exact Mod.refl _ _ | refine Mod.alloc ?_ _ | refine Mod.drewN ?_ _ | refine Mod.drew ?_)))) HM.out.1 HM.out.2 (by have := HN.out.2.2.2.2; omega) HN.out.1).mono ?_
                 rintro e Y6 ⟨rfl, m6⟩
                 have hb := H8.out.mod (thingS _ _) (thingRS _ _) ((show Mod _ _ [] by (with_reducible repeat (first | exact Mod.refl _ _ | refine Mod.alloc ?_ _ | refine Mod.drewN ?_ _ | refine Mod.drew ?_))).trans m6 (by simp))
                 obtain ⟨e0_h, e1_h, e2_h, e3_h, e4_h, e5_h, e6_h, e7_h, e8_h, e9_h⟩ := blk10 (hb.at (b := q) (o := .cells #[.int .i64 x0, .int .i64 x1, .string x2, .string x3, .int .u64 v0, .int .u32 v1, .int .u32 v2, .int .u32 v3, .string v4, .bool v5] 69) (by simp))
                 have HB := Lib.hid hb
                 clear m6 hb)
              | (go_at_call 35
                 refine (kcount x2 (HB.out.mod (thingS _ _) (thingRS _ _) (by (with_reducible repeat (first | exact Mod.refl _ _ | refine Mod.alloc ?_ _ | refine Mod.drewN ?_ _ | refine Mod.drew ?_)))).s HN.out.2.1).mono ?_
                 rintro e W' ⟨rfl, rfl⟩)
              | (go_at_call 41
                 refine (trcount x2 (HB.out.mod (thingS _ _) (thingRS _ _) (by (with_reducible repeat (first | exact Mod.refl _ _ | refine Mod.alloc ?_ _ | refine Mod.drewN ?_ _ | refine Mod.drew ?_)))) HM.out.1 (by have := HN.out.2.2.2.2; omega) HN.out.2.1).mono ?_
                 rintro e W' ⟨rfl, rfl⟩)
              | (go_at_call 30
                 refine (oscan x2 x3 v0 v1 x1 (HB.out.mod (thingS _ _) (thingRS _ _) (by (with_reducible repeat (first | exact Mod.refl _ _ | refine Mod.alloc ?_ _ | refine Mod.drewN ?_ _ | refine Mod.drew ?_)))).s (by have := HN.out.2.2.2.2; omega) HN.out.2.2.1).mono ?_
                 rintro e Y7 ⟨A7, c7, rfl, r7, b7, m7⟩
                 have hd := HB.out.mod (thingS _ _) (thingRS _ _) ((show Mod _ _ [] by (with_reducible repeat (first | exact Mod.refl _ _ | refine Mod.alloc ?_ _ | refine Mod.drewN ?_ _ | refine Mod.drew ?_))).trans m7 (by simp))
                 obtain ⟨e0_i, e1_i, e2_i, e3_i, e4_i, e5_i, e6_i, e7_i, e8_i, e9_i⟩ := blk10 (hd.at (b := q) (o := .cells #[.int .i64 x0, .int .i64 x1, .string x2, .string x3, .int .u64 v0, .int .u32 v1, .int .u32 v2, .int .u32 v3, .string v4, .bool v5] 69) (by simp))
                 obtain ⟨A', c', e', g7, C7⟩ := r7.C
                 injection e' with e1 _ e3
                 subst e1
                 subst e3
                 have HD := Lib.hid (And.intro hd (And.intro g7 C7))
                 clear m7 hd r7 b7 g7 C7)
              | (go_at_call 42
                 refine (trscan x2 x3 v0 v1 x1 (HD.out.1.mod (thingS _ _) (thingRS _ _) (by (with_reducible repeat (first | exact Mod.refl _ _ | refine Mod.alloc ?_ _ | refine Mod.drewN ?_ _ | refine Mod.drew ?_)))) HM.out.1 HM.out.2 (by have := HN.out.2.2.2.2; omega) HN.out.2.2.1).mono ?_
                 rintro e Y8 ⟨A8, c8, rfl, r8, b8, m8⟩
                 have n8 := ((show Mod Y7 _ [] by (with_reducible repeat (first | exact Mod.refl _ _ | refine Mod.alloc ?_ _ | refine Mod.drewN ?_ _ | refine Mod.drew ?_))).trans m8 (by simp))
                 have he := HD.out.1.mod (thingS _ _) (thingRS _ _) n8
                 obtain ⟨e0_j, e1_j, e2_j, e3_j, e4_j, e5_j, e6_j, e7_j, e8_j, e9_j⟩ := blk10 (he.at (b := q) (o := .cells #[.int .i64 x0, .int .i64 x1, .string x2, .string x3, .int .u64 v0, .int .u32 v1, .int .u32 v2, .int .u32 v3, .string v4, .bool v5] 69) (by simp))
                 obtain ⟨A', c', e', g8, C8⟩ := r8.C
                 injection e' with e1 _ e3
                 subst e1
                 subst e3
                 have HE := Lib.hid (And.intro he (And.intro HD.out.2.1 (And.intro (Kd.C_below HD.out.2.2 (Mod.bel n8)) (And.intro g8 C8))))
                 clear m8 he n8 r8 b8 g8 C8))
            all_goals
              have hM := HN.out.2.2.2.2
              go_wp2
              go_roundg (l.length - (j + 1))
              case measure => omega
              case rel => exact ⟨j + 1, M, by omega, rfl, by rw [show ((j + 1 : Nat) : Int) = (j : Int) + 1 by omega], by omega, two_drop H9.out, hM⟩
          · have p1b : (x0 == 1) = false := by simpa using p1
            clear p1
            have hM : L.length ≤ j + 1 := by omega
            have H5 := HV
            have HM := Lib.hid (And.intro H5.out.s.sorted H5.out.s.right)
            clear HV HT hl1 e0_a e1_a e2_a e3_a e4_a e5_a e6_a e7_a e8_a e9_a
            obtain ⟨e0_c, e1_c, e2_c, e3_c, e4_c, e5_c, e6_c, e7_c, e8_c, e9_c⟩ := blk10 (H5.out.at (b := q) (o := .cells #[.int .i64 x0, .int .i64 x1, .string x2, .string x3, .int .u64 v0, .int .u32 v1, .int .u32 v2, .int .u32 v3, .string v4, .bool v5] 69) (by simp))
            generalize L = M at *
            obtain ⟨y5, b5, hx⟩ : ∃ x b, getS M x2 v0 v1 = (x, b) := ⟨_, _, rfl⟩
            have HX := Lib.hid hx
            obtain ⟨n1, n2, hn⟩ : ∃ a b, nwC (chOf M x2) = (a, b) := ⟨_, _, rfl⟩
            obtain ⟨cn, hcn⟩ : ∃ a, (chOf M x2).length = a := ⟨_, rfl⟩
            obtain ⟨T, hT⟩ : ∃ T, scanS M x2 x3 v0 v1 x1 = T := ⟨_, rfl⟩
            have hTl : T.length ≤ 1000 := by rw [← hT]; exact scanS_le _ _ _ _ _ _
            have HN := Lib.hid (And.intro hn (And.intro hcn (And.intro hT (And.intro hTl hM))))
            clear hx hn hcn hT hTl hM
            go_wp2_with fail
            refine (oget x2 v0 v1 H5.out.s HX.out).mono ?_
            rintro e Y3 ⟨rfl, m3⟩
            have h6 := H5.out.mod (thingS _ _) (thingRS _ _) m3
            clear e0_c e1_c e2_c e3_c e4_c e5_c e6_c e7_c e8_c e9_c
            obtain ⟨e0_d, e1_d, e2_d, e3_d, e4_d, e5_d, e6_d, e7_d, e8_d, e9_d⟩ := blk10 (h6.at (b := q) (o := .cells #[.int .i64 x0, .int .i64 x1, .string x2, .string x3, .int .u64 v0, .int .u32 v1, .int .u32 v2, .int .u32 v3, .string v4, .bool v5] 69) (by simp))
            have H6 := Lib.hid h6
            clear h6 m3
            go_wp2_with fail
            refine (trget x2 v0 v1 H6.out HM.out.1 HM.out.2 (by have := HN.out.2.2.2.2; omega) HX.out).mono ?_
            rintro e Y4 ⟨rfl, m4⟩
            have h7 := H6.out.mod (thingS _ _) (thingRS _ _) m4
            clear e0_d e1_d e2_d e3_d e4_d e5_d e6_d e7_d e8_d e9_d
            obtain ⟨e0_f, e1_f, e2_f, e3_f, e4_f, e5_f, e6_f, e7_f, e8_f, e9_f⟩ := blk10 (h7.at (b := q) (o := .cells #[.int .i64 x0, .int .i64 x1, .string x2, .string x3, .int .u64 v0, .int .u32 v1, .int .u32 v2, .int .u32 v3, .string v4, .bool v5] 69) (by simp))
            have H7 := Lib.hid h7
            clear h7 m4
            go_upto_region 17 with fail
            go_region_held3 (fun w' => w'.cell? ⟨q, 0, none⟩ = some (.int .i64 x0) ∧ w'.cell? ⟨q, 1, none⟩ = some (.int .i64 x1) ∧ w'.cell? ⟨q, 2, none⟩ = some (.string x2) ∧ w'.cell? ⟨q, 3, none⟩ = some (.string x3) ∧ w'.cell? ⟨q, 4, none⟩ = some (.int .u64 v0) ∧ w'.cell? ⟨q, 5, none⟩ = some (.int .u32 v1) ∧ w'.cell? ⟨q, 6, none⟩ = some (.int .u32 v2) ∧ w'.cell? ⟨q, 7, none⟩ = some (.int .u32 v3) ∧ w'.cell? ⟨q, 8, none⟩ = some (.string v4) ∧ w'.cell? ⟨q, 9, none⟩ = some (.bool v5)) (go_keep) (first
              | (go_at_call 31
                 refine (pairs_calls (l := T) (by have := HN.out.2.2.2.1; omega) rfl HE.out.2.1 ?_ rfl HE.out.2.2.2.1 ?_).mono ?_
                 · first | exact HE.out.2.2.1 | exact Kd.C_drewN HE.out.2.2.1 _ | exact Kd.C_drew HE.out.2.2.1
                 · first | exact HE.out.2.2.2.2 | exact Kd.C_drewN HE.out.2.2.2.2 _ | exact Kd.C_drew HE.out.2.2.2.2
                 rintro e Y9 ⟨rfl, m9⟩
                 have h17 := HE.out.1.mod (thingS _ _) (thingRS _ _) ((show Mod _ _ [] by (with_reducible repeat (first | exact Mod.refl _ _ | refine Mod.alloc ?_ _ | refine Mod.drewN ?_ _ | refine Mod.drew ?_))).trans m9 (by simp))
                 obtain ⟨e0_k, e1_k, e2_k, e3_k, e4_k, e5_k, e6_k, e7_k, e8_k, e9_k⟩ := blk10 (h17.at (b := q) (o := .cells #[.int .i64 x0, .int .i64 x1, .string x2, .string x3, .int .u64 v0, .int .u32 v1, .int .u32 v2, .int .u32 v3, .string v4, .bool v5] 69) (by simp))
                 have H9 := Lib.hid h17
                 clear m9 h17)
              | (go_at_call 32
                 refine (knewest x2 (H7.out.mod (thingS _ _) (thingRS _ _) (by (with_reducible repeat (first | exact Mod.refl _ _ | refine Mod.alloc ?_ _ | refine Mod.drewN ?_ _ | refine Mod.drew ?_)))).s HN.out.1).mono ?_
                 rintro e Y5 ⟨rfl, m5⟩
                 have h8 := H7.out.mod (thingS _ _) (thingRS _ _) ((show Mod _ _ [] by (with_reducible repeat (first | exact Mod.refl _ _ | refine Mod.alloc ?_ _ | refine Mod.drewN ?_ _ | refine Mod.drew ?_))).trans m5 (by simp))
                 obtain ⟨e0_g, e1_g, e2_g, e3_g, e4_g, e5_g, e6_g, e7_g, e8_g, e9_g⟩ := blk10 (h8.at (b := q) (o := .cells #[.int .i64 x0, .int .i64 x1, .string x2, .string x3, .int .u64 v0, .int .u32 v1, .int .u32 v2, .int .u32 v3, .string v4, .bool v5] 69) (by simp))
                 have H8 := Lib.hid h8
                 clear m5 h8)
              | (go_at_call 40
                 refine (trnewest x2 (H8.out.mod (thingS _ _) (thingRS _ _) (by (with_reducible repeat (first | exact Mod.refl _ _ | refine Mod.alloc ?_ _ | refine Mod.drewN ?_ _ | refine Mod.drew ?_)))) HM.out.1 HM.out.2 (by have := HN.out.2.2.2.2; omega) HN.out.1).mono ?_
                 rintro e Y6 ⟨rfl, m6⟩
                 have hb := H8.out.mod (thingS _ _) (thingRS _ _) ((show Mod _ _ [] by (with_reducible repeat (first | exact Mod.refl _ _ | refine Mod.alloc ?_ _ | refine Mod.drewN ?_ _ | refine Mod.drew ?_))).trans m6 (by simp))
                 obtain ⟨e0_h, e1_h, e2_h, e3_h, e4_h, e5_h, e6_h, e7_h, e8_h, e9_h⟩ := blk10 (hb.at (b := q) (o := .cells #[.int .i64 x0, .int .i64 x1, .string x2, .string x3, .int .u64 v0, .int .u32 v1, .int .u32 v2, .int .u32 v3, .string v4, .bool v5] 69) (by simp))
                 have HB := Lib.hid hb
                 clear m6 hb)
              | (go_at_call 35
                 refine (kcount x2 (HB.out.mod (thingS _ _) (thingRS _ _) (by (with_reducible repeat (first | exact Mod.refl _ _ | refine Mod.alloc ?_ _ | refine Mod.drewN ?_ _ | refine Mod.drew ?_)))).s HN.out.2.1).mono ?_
                 rintro e W' ⟨rfl, rfl⟩)
              | (go_at_call 41
                 refine (trcount x2 (HB.out.mod (thingS _ _) (thingRS _ _) (by (with_reducible repeat (first | exact Mod.refl _ _ | refine Mod.alloc ?_ _ | refine Mod.drewN ?_ _ | refine Mod.drew ?_)))) HM.out.1 (by have := HN.out.2.2.2.2; omega) HN.out.2.1).mono ?_
                 rintro e W' ⟨rfl, rfl⟩)
              | (go_at_call 30
                 refine (oscan x2 x3 v0 v1 x1 (HB.out.mod (thingS _ _) (thingRS _ _) (by (with_reducible repeat (first | exact Mod.refl _ _ | refine Mod.alloc ?_ _ | refine Mod.drewN ?_ _ | refine Mod.drew ?_)))).s (by have := HN.out.2.2.2.2; omega) HN.out.2.2.1).mono ?_
                 rintro e Y7 ⟨A7, c7, rfl, r7, b7, m7⟩
                 have hd := HB.out.mod (thingS _ _) (thingRS _ _) ((show Mod _ _ [] by (with_reducible repeat (first | exact Mod.refl _ _ | refine Mod.alloc ?_ _ | refine Mod.drewN ?_ _ | refine Mod.drew ?_))).trans m7 (by simp))
                 obtain ⟨e0_i, e1_i, e2_i, e3_i, e4_i, e5_i, e6_i, e7_i, e8_i, e9_i⟩ := blk10 (hd.at (b := q) (o := .cells #[.int .i64 x0, .int .i64 x1, .string x2, .string x3, .int .u64 v0, .int .u32 v1, .int .u32 v2, .int .u32 v3, .string v4, .bool v5] 69) (by simp))
                 obtain ⟨A', c', e', g7, C7⟩ := r7.C
                 injection e' with e1 _ e3
                 subst e1
                 subst e3
                 have HD := Lib.hid (And.intro hd (And.intro g7 C7))
                 clear m7 hd r7 b7 g7 C7)
              | (go_at_call 42
                 refine (trscan x2 x3 v0 v1 x1 (HD.out.1.mod (thingS _ _) (thingRS _ _) (by (with_reducible repeat (first | exact Mod.refl _ _ | refine Mod.alloc ?_ _ | refine Mod.drewN ?_ _ | refine Mod.drew ?_)))) HM.out.1 HM.out.2 (by have := HN.out.2.2.2.2; omega) HN.out.2.2.1).mono ?_
                 rintro e Y8 ⟨A8, c8, rfl, r8, b8, m8⟩
                 have n8 := ((show Mod Y7 _ [] by (with_reducible repeat (first | exact Mod.refl _ _ | refine Mod.alloc ?_ _ | refine Mod.drewN ?_ _ | refine Mod.drew ?_))).trans m8 (by simp))
                 have he := HD.out.1.mod (thingS _ _) (thingRS _ _) n8
                 obtain ⟨e0_j, e1_j, e2_j, e3_j, e4_j, e5_j, e6_j, e7_j, e8_j, e9_j⟩ := blk10 (he.at (b := q) (o := .cells #[.int .i64 x0, .int .i64 x1, .string x2, .string x3, .int .u64 v0, .int .u32 v1, .int .u32 v2, .int .u32 v3, .string v4, .bool v5] 69) (by simp))
                 obtain ⟨A', c', e', g8, C8⟩ := r8.C
                 injection e' with e1 _ e3
                 subst e1
                 subst e3
                 have HE := Lib.hid (And.intro he (And.intro HD.out.2.1 (And.intro (Kd.C_below HD.out.2.2 (Mod.bel n8)) (And.intro g8 C8))))
                 clear m8 he n8 r8 b8 g8 C8))
            all_goals
              have hM := HN.out.2.2.2.2
              go_wp2
              go_roundg (l.length - (j + 1))
              case measure => omega
              case rel => exact ⟨j + 1, M, by omega, rfl, by rw [show ((j + 1 : Nat) : Int) = (j : Int) + 1 by omega], by omega, two_drop H9.out, hM⟩
    · obtain rfl : j = l.length := by omega
      have hzz : ¬ ((l.length : Int) < (l.length : Int)) := by omega
      generalize wr = Z at *
      have HZ := HT
      obtain ⟨fq, fp, z1, ⟨Ag, cg, rfp, zg, zr, zn, zl, rfl⟩, z3, z4, z5, z6, z7⟩ := HZ.out
      have G0 : Z.cell? ⟨g, 0, none⟩ = some (.slice Ag L.length cg) := (blk_cell zg 0).trans rfl
      have HG := Lib.hid (And.intro zr (And.intro HZ.out.s.right HZ.out.s.m))
      have hLn : L.length ≤ 1000000 := by omega
      have HL := Lib.hid hLn
      clear z1 zg zr zn zl z3 z4 z5 z6 z7 hLn
      go_upto_region 20 with fail
      go_region_held3 (fun w' => w'.cell? ⟨g, 0, none⟩ = some (.slice Ag L.length cg)) (go_keep) (first
        | (go_at_call 28
           refine (kitems (HZ.out.mod (thingS _ _) (thingRS _ _) (by (with_reducible repeat (first | exact Mod.refl _ _ | refine Mod.alloc ?_ _ | refine Mod.drewN ?_ _ | refine Mod.drew ?_)))).s HL.out).mono ?_
           rintro e Z1 ⟨A1, c1, rfl, r1, m1⟩
           rw [itemsL_len] at r1 ⊢
           have n1 : Mod Z Z1 [] := (show Mod Z _ [] by (with_reducible repeat (first | exact Mod.refl _ _ | refine Mod.alloc ?_ _ | refine Mod.drewN ?_ _ | refine Mod.drew ?_))).trans m1 (by simp)
           have G1 := Mod.cellN n1 G0 (by simp)
           have R1 := Lib.hid (And.intro n1 r1)
           clear m1 n1 r1)
        | (go_at_call 43
           refine (rsame9_calls (k_mod R1.out.2 (by (with_reducible repeat (first | exact Mod.refl _ _ | refine Mod.alloc ?_ _ | refine Mod.drewN ?_ _ | refine Mod.drew ?_)))) (k_mod (k_mod HG.out.1 R1.out.1) (by (with_reducible repeat (first | exact Mod.refl _ _ | refine Mod.alloc ?_ _ | refine Mod.drewN ?_ _ | refine Mod.drew ?_)))) HG.out.2.1 HL.out).mono ?_
           rintro e Z2 ⟨rfl, m2⟩
           have n2 : Mod Z Z2 [] := R1.out.1.trans ((show Mod Z1 _ [] by (with_reducible repeat (first | exact Mod.refl _ _ | refine Mod.alloc ?_ _ | refine Mod.drewN ?_ _ | refine Mod.drew ?_))).trans m2 (by simp)) (by simp)
           have G2 := Mod.cellN n2 G0 (by simp)
           have R2 := Lib.hid n2
           clear m2 n2))
      all_goals
        go_wp2
        go_ret
        exact ⟨rfl, H2.out.1.trans (HG.out.2.2.trans R2.out (by simp)) (by simp)⟩
def dovecotelaw09_StoreRuns.f (k : Nat) (l0 : List S69) : Option Bool := some true
theorem dovecotelaw09_StoreRuns.calls (k : Nat) (A0 : Option Addr) (c0 : Nat) (l0 : List S69) (r : Bool) (w : World) (hr0 : Kd.C k69 w A0 l0.length l0) (hc0 : l0.length ≤ c0) (h : dovecotelaw09_StoreRuns.f k l0 = some r) :
    Calls Try.prog 11 #[.slice A0 l0.length c0] w fun e w' => e = .returned (.bool r) ∧ Below w.heap.size w w' := by
  obtain rfl : true = r := Option.some.inj h
  exact (runs_calls hr0 hc0).mono fun e w' ⟨h1, h2⟩ => ⟨h1, Mod.bel h2⟩
end Go.Proofs.Ytomcjcoehahikaa.Sto
