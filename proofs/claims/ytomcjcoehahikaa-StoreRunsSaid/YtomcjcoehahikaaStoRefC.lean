/- The document's answer for the layer 'store', walked: Put, Prune, Scan, Same; a seat's own text, no law of its own. -/
import Derived.Test.YtomcjcoehahikaaStoRefB
import Derived.Deep.LoopGhost
import Derived.Deep.Cut
import Derived.Lib.Hide
import Derived.StillTailTactics
import Derived.Deep.QuietTactic
import Derived.BigQuiet
import Derived.Outline
import Derived.Deep.RegionWith
import Derived.Deep.RegionHeld3
import Derived.WalkLawsBesides
namespace Go.Proofs.Ytomcjcoehahikaa.Sto
open Go.RowKit Go.Proofs.YtomcjcoehahikaaW.PrintWords Go.Proofs.Ytomcjcoehahikaa.Ord Go.Proofs.Ytomcjcoehahikaa.MStoreRuns Go.Proofs.YtomcjcoehahikaaW.PrintLast
set_option linter.unusedVariables false
set_option linter.unusedSimpArgs false
theorem rkey_calls {W : World} (key : ByteArray) {b : Bool} (hb : decide (1 ≤ key.size ∧ key.size ≤ 32) = b) : Calls Try.prog 56 #[.string key] W fun e W' => e = .returned (.bool b) ∧ W' = W := by
  by_cases h1 : 1 ≤ key.size
  · have h1z : (1 : Int) ≤ key.size := by omega
    by_cases h2 : key.size ≤ 32
    · have h2z : (key.size : Int) ≤ 32 := by omega
      obtain rfl : true = b := by rw [← hb]; simp [h1, h2]
      go_enter Try.func56, Try.ntmps56
      go_wp2
      go_ret
      exact ⟨rfl, rfl⟩
    · have h2z : ¬ (key.size : Int) ≤ 32 := by omega
      obtain rfl : false = b := by rw [← hb]; simp [h1, h2]
      go_enter Try.func56, Try.ntmps56
      go_wp2
      go_ret
      exact ⟨rfl, rfl⟩
  · have h1z : ¬ (1 : Int) ≤ key.size := by omega
    obtain rfl : false = b := by rw [← hb]; simp [h1]
    go_enter Try.func56, Try.ntmps56
    go_wp2
    go_ret
    exact ⟨rfl, rfl⟩
theorem rown {W : World} {ok : Nat → Prop} {v : Value} {l : List S31} (h : k31.R 31 W 0 ok v l) : k31.R 31 W 0 (fun k => k ∈ ownList v) v l := Kd.R_flat (fun hx => plainV _ _ _ _ _ _ _ _ hx) h (fun k hk _ => own_own' v k hk)
def RPutSP (W : World) (g : Nat) (L' : St) (r : Int) (fp : List Nat) (e : Ending) (W' : World) : Prop := e = .returned (.int .i64 r) ∧ ∃ fp', RS g L' W' fp' ∧ Mod W W' fp ∧ ∀ y ∈ fp', y ∈ fp ∨ W.heap.size ≤ y
theorem put_some {L : St} (hr : AllR L) {key : ByteArray} {v : S31} (h : (putC (chOf L key) v).2 = 0) : (putC (chOf L key) v).1.length ≠ 0 := by
  have hs := put_is (v := v) (hr.chain key)
  generalize putC (chOf L key) v = q at hs h
  cases hs with
  | unfit _ => cases h
  | same _ hm => exact fun e => by dsimp only at e; rw [List.eq_nil_of_length_eq_zero e] at hm; cases hm
  | busy _ _ _ _ _ => cases h
  | more _ _ _ => cases h
  | new _ _ _ => dsimp only; rw [putL_length]; omega
set_option maxRecDepth 100000 in
set_option maxHeartbeats 4000000 in
theorem rputs_calls {W : World} {g : Nat} {L L' : St} {r : Int} {fp : List Nat} (key : ByteArray) (v0 v1 v2 v3 : Int) (v4 : ByteArray) (v5 : Bool) (h : RS g L W fp) (hs : Sorted L) (hr : AllR L) (hl : L.length ≤ 1000000) (hp : putS L key ⟨⟨v0, v1⟩, ⟨v2, v3⟩, v4, v5⟩ = (L', r)) :
    Calls Try.prog 37 #[.pointer (some ⟨g, 0, none⟩), .string key, .agg #[.int .u64 v0, .int .u32 v1, .int .u32 v2, .int .u32 v3, .string v4, .bool v5]] W (RPutSP W g L' r fp) := by
  have hm := (Mod.refl W []).alloc (.cells #[.int .u64 v0, .int .u32 v1, .int .u32 v2, .int .u32 v3, .string v4, .bool v5] 31)
  have hb := blk_new W (.cells #[.int .u64 v0, .int .u32 v1, .int .u32 v2, .int .u32 v3, .string v4, .bool v5] 31)
  have hbd := (thingRS g L).bnd h
  have hput : ∀ q, putC (chOf L key) ⟨⟨v0, v1⟩, ⟨v2, v3⟩, v4, v5⟩ = q → putR (chOf L key) ⟨⟨v0, v1⟩, ⟨v2, v3⟩, v4, v5⟩ = q := fun q e => by rw [put_r (rightB_yes (hr.chain key)), e]
  have hne := put_some hr (key := key) (v := ⟨⟨v0, v1⟩, ⟨v2, v3⟩, v4, v5⟩)
  have hcn := (hr.chain key).n
  have hpl := put_clen (hr.chain key) ⟨⟨v0, v1⟩, ⟨v2, v3⟩, v4, v5⟩
  have H := Lib.hid (And.intro ((thingRS g L).stab h hm (by simp)) (And.intro hm (And.intro hb (And.intro hs hbd))))
  have hfg : g ∈ fp := by obtain ⟨A, c, rfp, _, _, _, _, rfl⟩ := h; simp
  have HFG := Lib.hid hfg
  clear h hm hb hs hbd hfg
  obtain ⟨kb, hkb⟩ : ∃ kb, decide (1 ≤ key.size ∧ key.size ≤ 32) = kb := ⟨_, rfl⟩
  have HKB := Lib.hid hkb
  obtain ⟨⟨q1, q2⟩, hq⟩ : ∃ q, putC (chOf L key) ⟨⟨v0, v1⟩, ⟨v2, v3⟩, v4, v5⟩ = q := ⟨_, rfl⟩
  have hQ := hput _ hq
  rw [hq] at hne hpl
  dsimp only at hne hpl
  have HP := Lib.hid (And.intro hp (And.intro hq (And.intro hQ (And.intro hne (And.intro hcn hpl)))))
  clear hkb hp hq hQ hput hne hcn hpl
  go_enter Try.func37, Try.ntmps37
  go_wp2_with fail
  generalize W.alloc (.cells #[.int .u64 v0, .int .u32 v1, .int .u32 v2, .int .u32 v3, .string v4, .bool v5] 31) = W1 at H ⊢
  generalize hv : W.heap.size = b at H ⊢
  have HV := Lib.hid hv
  clear hv
  refine (rkey_calls key HKB.out).mono ?_
  rintro e W2 ⟨rfl, rfl⟩
  cases kb with
  | false =>
    have hk : key.size < 1 ∨ 32 < key.size := by have := of_decide_eq_false HKB.out; omega
    have HZ : Hid (L' = L ∧ r = 1) := Lib.hid (by
      have e := HP.out.1
      unfold putS at e
      rw [if_pos hk] at e
      simp only [Prod.mk.injEq] at e
      exact ⟨e.1.symm, e.2.symm⟩)
    clear hk
    go_wp2
    go_ret
    rw [HZ.out.1, HZ.out.2]
    exact ⟨rfl, fp, H.out.1, H.out.2.1.mono (by simp), fun y hy => .inl hy⟩
  | true =>
    have hk : ¬ (key.size < 1 ∨ 32 < key.size) := by have := of_decide_eq_true HKB.out; omega
    have hps : (L', r) = if q2 = 0 then (lset L key q1, 0) else (L, q2) := by rw [← HP.out.1]; unfold putS; rw [if_neg hk, HP.out.2.1]
    have HPS := Lib.hid hps
    have c0 : W2.cell? ⟨b, 0, none⟩ = some (.int .u64 v0) := (blk_cell H.out.2.2.1 0).trans rfl
    have c1 : W2.cell? ⟨b, 1, none⟩ = some (.int .u32 v1) := (blk_cell H.out.2.2.1 1).trans rfl
    have c2 : W2.cell? ⟨b, 2, none⟩ = some (.int .u32 v2) := (blk_cell H.out.2.2.1 2).trans rfl
    have c3 : W2.cell? ⟨b, 3, none⟩ = some (.int .u32 v3) := (blk_cell H.out.2.2.1 3).trans rfl
    have c4 : W2.cell? ⟨b, 4, none⟩ = some (.string v4) := (blk_cell H.out.2.2.1 4).trans rfl
    have c5 : W2.cell? ⟨b, 5, none⟩ = some (.bool v5) := (blk_cell H.out.2.2.1 5).trans rfl
    clear hk hps
    go_upto_region 3 with fail
    go_region_held3 (fun w' => w'.cell? ⟨b, 0, none⟩ = some (.int .u64 v0) ∧ w'.cell? ⟨b, 1, none⟩ = some (.int .u32 v1) ∧ w'.cell? ⟨b, 2, none⟩ = some (.int .u32 v2) ∧ w'.cell? ⟨b, 3, none⟩ = some (.int .u32 v3) ∧ w'.cell? ⟨b, 4, none⟩ = some (.string v4) ∧ w'.cell? ⟨b, 5, none⟩ = some (.bool v5)) (go_keep) (first
      | (go_at_call 57
         refine (rchain_calls key ((thingRS g L).stab (fp' := []) H.out.1 (by (with_reducible repeat (first | exact Mod.refl _ _ | refine Mod.drewN ?_ _ | refine Mod.drew ?_))) (by simp)) H.out.2.2.2.1 hl rfl).mono ?_
         rintro e W3 ⟨v9, rfl, hR, rfl⟩
         obtain ⟨A, c, rfl, hc, hC⟩ := Kd.R_reads hR
         have HC := Lib.hid (And.intro hc (And.intro hC hR))
         clear hR hc hC)
      | (go_at_call 20
         refine (rput_calls v0 v1 v2 v3 v4 v5 ?_ HC.out.1 (by have := HP.out.2.2.2.2.1; omega) HP.out.2.2.1).mono ?_
         · first | exact HC.out.2.1 | exact Kd.C_drewN HC.out.2.1 _ | exact Kd.C_drew HC.out.2.1
         rintro e W4 ⟨A4, d4, rfl, m4, h4⟩
         have n4 : Mod W2 W4 [] := by
           refine Mod.trans ?_ m4 (by simp)
           (with_reducible repeat (first | exact Mod.refl _ _ | refine Mod.drewN ?_ _ | refine Mod.drew ?_))
         have x0 := Mod.cellN n4 c0 (by simp)
         have x1 := Mod.cellN n4 c1 (by simp)
         have x2 := Mod.cellN n4 c2 (by simp)
         have x3 := Mod.cellN n4 c3 (by simp)
         have x4 := Mod.cellN n4 c4 (by simp)
         have x5 := Mod.cellN n4 c5 (by simp)
         have H4 := Lib.hid (And.intro n4 h4)
         have H4m := Lib.hid m4
         clear m4 n4 h4))
    all_goals
      clear x0 x1 x2 x3 x4 x5 c0 c1 c2 c3 c4 c5
      by_cases h0 : q2 = 0
      · subst h0
        have HL' : Hid (L' = lset L key q1 ∧ r = 0) := Lib.hid (by have e := HPS.out; rw [if_pos rfl] at e; simpa using e)
        have hq1 := HP.out.2.2.2.1 rfl
        have hset : setL L key q1 = L' := by rw [HL'.out.1]; unfold setL; rw [if_neg hq1]
        have hcl : q1.length ≤ 1000000 := by have := HP.out.2.2.2.2; omega
        have hrs := (thingRS g L).stab H.out.1 H4.out.1 (by simp)
        obtain ⟨Ag, cg, rfp, hgb, _, _, _, hfp⟩ := hrs
        have hown : k31.R 31 W4 0 (fun k => k ∈ ownList (.slice A4 q1.length d4)) (.slice A4 q1.length d4) q1 ∧ ∀ y ∈ ownList (.slice A4 q1.length d4), y ∈ fp ∨ W.heap.size ≤ y := by
          rcases H4.out.2 with h | ⟨rfl, rfl, h⟩
          · exact ⟨rown h, fun y hy => .inr (Nat.le_trans H.out.2.1.size (h.1 y (own_mem _ y hy)))⟩
          · rw [h]
            have h2 : k31.R 31 W4 0 (fun k => k ∈ fp) (.slice A4 (chOf L key).length d4) (chOf L key) := R_mod HC.out.2.2 (by first | exact H4.out.1 | (refine Mod.trans ?_ H4m.out (by simp); (with_reducible repeat (first | exact Mod.refl _ _ | refine Mod.drewN ?_ _ | refine Mod.drew ?_))))
            exact ⟨rown h2, fun y hy => .inl (h2.1 y (own_mem _ y hy))⟩
        have hgn : g ∉ ownList (.slice A4 q1.length d4) := fun hy => Kd.R_ne hown.1 hgb (by decide) (own_mem _ g hy).symm
        have HO := Lib.hid (And.intro hown (And.intro hgn hset))
        clear hown hgn hset hq1 hgb
        go_wp2_with fail
        refine (rset_calls key ((thingRS g L).stab H.out.1 H4.out.1 (by simp)) H.out.2.2.2.1 hl hcl HO.out.1.1 (fun k hk => Kd.R_lt HO.out.1.1 k (own_mem _ k hk)) HO.out.2.1 HO.out.2.2).mono ?_
        rintro e W5 ⟨rfl, m5, fp5, h5, b5⟩
        have H5 := Lib.hid (And.intro m5 (And.intro h5 b5))
        clear m5 h5 b5
        go_wp2
        go_ret
        rw [HL'.out.2]
        refine ⟨rfl, fp5, H5.out.2.1, (((H.out.2.1.mono (by simp)).trans H4.out.1 (by simp)).trans H5.out.1 (fun y hy => by rw [List.mem_singleton] at hy; subst hy; exact .inl HFG.out)), fun y hy => ?_⟩
        rcases H5.out.2.2 y hy with (h | h) | h
        · exact .inl h
        · exact HO.out.1.2 y h
        · exact .inr (Nat.le_trans (H.out.2.1.trans H4.out.1 (by simp)).size h)
      · have HL' : Hid (L' = L ∧ r = q2) := Lib.hid (by have e := HPS.out; rw [if_neg h0] at e; simpa using e)
        go_wp2
        go_ret
        rw [HL'.out.1, HL'.out.2]
        exact ⟨rfl, fp, (thingRS g L).stab H.out.1 H4.out.1 (by simp), (H.out.2.1.mono (by simp)).trans H4.out.1 (by simp), fun y hy => .inl hy⟩
theorem setL_pr {L : St} (hs : Sorted L) (t0 t1 : Int) {j : Nat} (hj : j < L.length) : setL (prJ L t0 t1 j) L[j].1 (pruneL L[j].2 t0 t1) = prJ L t0 t1 (j + 1) := by
  unfold setL
  by_cases h : pruneL L[j].2 t0 t1 = []
  · rw [if_pos (by rw [h]; rfl)]; exact prJ_cut hs t0 t1 hj h
  · rw [if_neg (fun e => h (List.eq_nil_of_length_eq_zero e))]; exact prJ_set hs t0 t1 hj h
theorem setL_sorted {L : St} (hs : Sorted L) (key : ByteArray) (cl : List S31) : Sorted (setL L key cl) := by
  unfold setL
  split
  · exact lcut_sorted key hs
  · exact lset_sorted key cl hs
def RPruneP (W : World) (g : Nat) (L' : St) (n : Nat) (fp : List Nat) (e : Ending) (W' : World) : Prop := e = .returned (.int .i64 n) ∧ ∃ fp', RS g L' W' fp' ∧ Mod W W' fp ∧ ∀ y ∈ fp', y ∈ fp ∨ W.heap.size ≤ y
set_option maxRecDepth 100000 in
set_option maxHeartbeats 4000000 in
theorem rprunes_calls {W : World} {g : Nat} {L L' : St} {n : Nat} {fp : List Nat} (t0 t1 : Int) (h : RS g L W fp) (hs : Sorted L) (hr : AllR L) (hl : L.length ≤ 1000000) (hp : pruneS L t0 t1 = L') (hn : gone L t0 t1 = n) :
    Calls Try.prog 38 #[.pointer (some ⟨g, 0, none⟩), .agg #[.int .u64 t0, .int .u32 t1]] W (RPruneP W g L' n fp) := by
  have hm := (Mod.refl W []).alloc (.cells #[.int .u64 t0, .int .u32 t1] 27)
  have hb := blk_new W (.cells #[.int .u64 t0, .int .u32 t1] 27)
  have hbd := (thingRS g L).bnd h
  have h' := (thingRS g L).stab h hm (by simp)
  obtain ⟨A, c, rfp, g1, g2, g3, g4, rfl⟩ := h'
  have hc : (W.alloc (.cells #[.int .u64 t0, .int .u32 t1] 27)).cell? ⟨g, 0, none⟩ = some (.slice A L.length c) := (blk_cell g1 0).trans rfl
  have H := Lib.hid (And.intro (show RS g L (W.alloc (.cells #[.int .u64 t0, .int .u32 t1] 27)) (g :: rfp) from ⟨A, c, rfp, g1, g2, g3, g4, rfl⟩) (And.intro hm (And.intro hb (And.intro hs (And.intro hr (And.intro g2 (And.intro g3 hbd)))))))
  subst hp
  subst hn
  have hg0 := gone_le hr t0 t1
  clear h hm hb hs hr hbd g1 g2 g3 g4
  go_enter Try.func38, Try.ntmps38
  go_wp2_with fail
  generalize W.alloc (.cells #[.int .u64 t0, .int .u32 t1] 27) = W2 at H hc ⊢
  generalize hv : W.heap.size = b at H ⊢
  have HV := Lib.hid hv
  clear hv
  go_loopg [5, 7] L.length (fun k nv i wr => ∃ (j : Nat) (fp' : List Nat), j ≤ L.length ∧ k = L.length - j ∧ i = .int .i64 j ∧ nv = .int .i64 (gone (L.take j) t0 t1) ∧ RS g (prJ L t0 t1 j) wr fp' ∧ Sorted (prJ L t0 t1 j) ∧ Mod W2 wr [g] ∧ (∀ y ∈ fp', y ∈ (g :: rfp) ∨ W2.heap.size ≤ y))
  case atStart => exact ⟨0, g :: rfp, Nat.zero_le _, rfl, rfl, by simp [gone], by
    have e : prJ L t0 t1 0 = L := by simp [prJ, pruneS]
    rw [e]; exact H.out.1, by
    have e : prJ L t0 t1 0 = L := by simp [prJ, pruneS]
    rw [e]; exact H.out.2.2.2.1, Mod.refl _ _, fun y hy => .inl hy⟩
  case round =>
    obtain ⟨j, fp', hj, rfl, rfl, rfl, hS, hso, hM, hF⟩ := hrel
    by_cases hjl : j < L.length
    · have hjz : (j : Int) < (L.length : Int) := by omega
      obtain ⟨q, vj, rfl, k0, k1, hRj, hqr⟩ := item_at H.out.2.2.2.2.2.1 j hjl
      have hqg : q ∉ [g] := fun hq => by rw [List.mem_singleton] at hq; subst hq; exact H.out.2.2.2.2.2.2.1 hqr
      have e0 := Mod.cellN hM k0 hqg
      have e1 := Mod.cellN hM k1 hqg
      have hR2 : k31.R 31 wr 0 (fun k => k ∈ rfp ∧ k ≠ q) vj L[j].2 := Kd.R_step hRj (fun k hk hlt => hM.block k hlt (fun hz => by rw [List.mem_singleton] at hz; subst hz; exact H.out.2.2.2.2.2.2.1 hk.1))
      obtain ⟨Aj, cj, rfl, hcj, hCj⟩ := Kd.R_reads hR2
      have hbg : b ∉ [g] := fun hz => by rw [List.mem_singleton] at hz; have := H.out.2.2.2.2.2.2.2 g (by simp); omega
      have s0 : wr.cell? ⟨b, 0, none⟩ = some (.int .u64 t0) := (blk_cell (hM.at_ H.out.2.2.1 hbg) 0).trans rfl
      have s1 : wr.cell? ⟨b, 1, none⟩ = some (.int .u32 t1) := (blk_cell (hM.at_ H.out.2.2.1 hbg) 1).trans rfl
      have hrp : RightP L[j].2 := H.out.2.2.2.2.1 _ (List.getElem_mem hjl)
      have hpr : prR L[j].2 t0 t1 = pruneL L[j].2 t0 t1 := by unfold prR; rw [rightB_yes hrp, if_pos rfl]
      have hset := setL_pr H.out.2.2.2.1 t0 t1 hjl
      have hgn := gone_next L t0 t1 hjl
      have hgl := gone_le (H.out.2.2.2.2.1.take j) t0 t1
      have hpl := prune_len L[j].2 t0 t1
      have hln := hrp.n
      have hsz : (gone (L.take j) t0 t1 : Int) ≤ 1000000000 := by have : (L.take j).length ≤ j := List.length_take_le _ _; omega
      have HJ := Lib.hid (And.intro hS (And.intro hso (And.intro hM (And.intro hF (And.intro hset (And.intro hgn (And.intro hpr (And.intro hcj (And.intro hCj hqg)))))))))
      clear hS hso hM hF hset hgn hpr hcj hCj hgl hrp hR2 hRj hc hbg hqg
      have hw : IntKind.i64.wrap ((j : Int) + 1) = ((j + 1 : Nat) : Int) := by rw [i64w (by omega) (by omega)]; omega
      have K0 := Lib.hid (And.intro k0 k1)
      clear k0 k1
      generalize hp : pruneL L[j].2 t0 t1 = p at *
      clear hp
      generalize L[j].1 = kk at *
      generalize L[j].2 = l at *
      generalize gone (L.take j) t0 t1 = n at *
      have hd1 : IntKind.i64.wrap ((n : Int) + l.length) = ((n + l.length : Nat) : Int) := by rw [i64w (by omega) (by omega)]; omega
      have hd2 : IntKind.i64.wrap (((n + l.length : Nat) : Int) - p.length) = ((n + (l.length - p.length) : Nat) : Int) := by rw [i64w (by omega) (by omega)]; omega
      go_upto_region 6 with fail
      go_region_held3 (fun w' => w'.cell? ⟨b, 0, none⟩ = some (.int .u64 t0) ∧ w'.cell? ⟨b, 1, none⟩ = some (.int .u32 t1) ∧ w'.cell? ⟨q, j * 2 + 1, none⟩ = some (.slice Aj l.length cj)) (go_keep) (first
        | (go_at_call 25
           refine (rprune_calls t0 t1 ?_ HJ.out.2.2.2.2.2.2.2.1 (by omega) HJ.out.2.2.2.2.2.2.1).mono ?_
           · first | exact HJ.out.2.2.2.2.2.2.2.2.1 | exact Kd.C_drewN HJ.out.2.2.2.2.2.2.2.2.1 _ | exact Kd.C_drew HJ.out.2.2.2.2.2.2.2.2.1
           rintro e W4 ⟨A4, d4, rfl, h4, m4⟩
           have n4 : Mod wr W4 [] := by
             refine Mod.trans ?_ m4 (by simp)
             (with_reducible repeat (first | exact Mod.refl _ _ | refine Mod.alloc ?_ _ | refine Mod.drewN ?_ _ | refine Mod.drew ?_))
           have x0 := Mod.cellN n4 s0 (by simp)
           have x1 := Mod.cellN n4 s1 (by simp)
           have x2 := Mod.cellN n4 e0 (by simp)
           have x3 := Mod.cellN n4 e1 (by simp)
           have H4 := Lib.hid (And.intro n4 h4)
           clear m4 n4 h4))
      all_goals
        clear s0 s1 e0 e1
        have hrs := (thingRS g _).stab HJ.out.1 H4.out.1 (by simp)
        have hgb : ∃ cells, W4.heap[g]? = some (.cells cells 76 (0, 0)) := by obtain ⟨_, _, _, z, _⟩ := hrs; exact ⟨_, z⟩
        have hgf : g ∈ fp' := by obtain ⟨_, _, _, _, _, _, _, z⟩ := HJ.out.1; rw [z]; simp
        have HO := Lib.hid (And.intro hrs (And.intro (rown H4.out.2) (And.intro (fun y hy => H4.out.2.1 y (own_mem _ y hy) : ∀ y ∈ ownList (.slice A4 p.length d4), _) (And.intro hgb hgf))))
        clear hrs hgb hgf
        go_wp2_with fail
        refine (rset_calls kk HO.out.1 HJ.out.2.1 (by have := prJ_len L t0 t1 j; omega) (by omega) HO.out.2.1 (fun k hk => Kd.R_lt HO.out.2.1 k (own_mem _ k hk)) (fun hy => by
          obtain ⟨cells, hz⟩ := HO.out.2.2.2.1
          exact Kd.R_ne HO.out.2.1 hz (by decide) (own_mem _ g hy).symm) HJ.out.2.2.2.2.1).mono ?_
        rintro e W5 ⟨rfl, m5, fp5, h5, b5⟩
        have H5 := Lib.hid (And.intro m5 (And.intro h5 b5))
        clear m5 h5 b5
        go_wp2
        go_roundg (L.length - (j + 1))
        case measure => omega
        case rel => exact ⟨j + 1, fp5, by omega, rfl, by rw [show ((j + 1 : Nat) : Int) = (j : Int) + 1 by omega], by rw [HJ.out.2.2.2.2.2.1]; first | rfl | exact congrArg (Value.int IntKind.i64) (by omega), H5.out.2.1, by rw [← HJ.out.2.2.2.2.1]; exact setL_sorted HJ.out.2.1 _ _, (HJ.out.2.2.1.trans H4.out.1 (by simp)).trans H5.out.1 (fun y hy => .inl hy), fun y hy => by
          rcases H5.out.2.2 y hy with (h | h) | h
          · exact HJ.out.2.2.2.1 y h
          · exact .inr (Nat.le_trans HJ.out.2.2.1.size (HO.out.2.2.1 y h))
          · exact .inr (Nat.le_trans (HJ.out.2.2.1.trans H4.out.1 (by simp)).size h)⟩
    · obtain rfl : j = L.length := by omega
      have hjz : ¬ (L.length : Int) < (L.length : Int) := by omega
      have e1 : prJ L t0 t1 L.length = pruneS L t0 t1 := by unfold prJ; rw [List.take_length, List.drop_length, List.append_nil]
      rw [e1] at hS
      have HJ := Lib.hid (And.intro hS (And.intro hM hF))
      clear hS hM hF e1 hso
      rw [List.take_length]
      go_wp2
      go_ret
      exact ⟨rfl, fp', HJ.out.1, (H.out.2.1.mono (by simp)).trans HJ.out.2.1 (fun y hy => by rw [List.mem_singleton] at hy; subst hy; exact .inl (by simp)), fun y hy => by
        rcases HJ.out.2.2 y hy with h | h
        · exact .inl h
        · exact .inr (Nat.le_trans H.out.2.1.size h)⟩
theorem inR_eq (lo hi k : ByteArray) : inR lo hi k = (!(Tree.lt k lo) && (hi.toList.isEmpty || Tree.lt k hi)) := by
  have h1 : (Tree.lt lo k = true ∨ lo.toList = k.toList) ↔ Tree.lt k lo = false := by
    constructor
    · rintro (h | h)
      · exact lt_as h
      · rw [← lt_l h, lt_irr]
    · intro h
      by_cases e : k.toList = lo.toList
      · exact .inr e.symm
      · exact .inl (lt_tot h e)
  have h2 : (hi.toList = []) ↔ hi.toList.isEmpty = true := by cases hi.toList <;> simp
  unfold inR
  cases a : Tree.lt k lo <;> cases b : hi.toList.isEmpty <;> cases c : Tree.lt k hi <;> simp [h1, h2, a, b, c]
theorem inR_eq' (lo hi k : ByteArray) : inR lo hi k = (!(Op.bytesLess k.toList lo.toList) && (hi.toList.isEmpty || Op.bytesLess k.toList hi.toList)) := inR_eq lo hi k
theorem scanA_more {L : St} {ks ks' : List ByteArray} {t0 t1 : Int} {m : Nat} (h : m ≤ (scanA L ks t0 t1 m).length) : scanA L (ks ++ ks') t0 t1 m = scanA L ks t0 t1 m := by
  unfold scanA at *
  rw [List.length_take] at h
  rw [List.filterMap_append, List.take_append_of_le_length (by omega)]
theorem scanA_one {L : St} {ks : List ByteArray} {k : ByteArray} {t0 t1 : Int} {m : Nat} (h : (scanA L ks t0 t1 m).length < m) : scanA L (ks ++ [k]) t0 t1 m = scanA L ks t0 t1 m ++ (scanF L t0 t1 k).toList := by
  have e := scanA_snoc L (ks ++ [k]) t0 t1 m ks.length (by simp) (by rw [List.take_left]; exact h)
  have e2 : (ks ++ [k]).take (ks.length + 1) = ks ++ [k] := List.take_of_length_le (by simp)
  have e3 : (ks ++ [k])[ks.length]'(by simp) = k := by simp
  rw [e2, List.take_left, e3] at e
  exact e
theorem rangeL_take (L : St) (lo hi : ByteArray) {j : Nat} (hj : j < L.length) : rangeL (L.take (j + 1)) lo hi = rangeL (L.take j) lo hi ++ (if inR lo hi L[j].1 = true then [L[j].1] else []) := by
  rw [take_snoc L hj, rangeL_app]
  congr 1
  unfold rangeL
  simp only [List.map_cons, List.map_nil, List.filter_cons, List.filter_nil]
theorem rangeL_split (L : St) (lo hi : ByteArray) (j : Nat) : rangeL L lo hi = rangeL (L.take j) lo hi ++ rangeL (L.drop j) lo hi := by rw [← rangeL_app, List.take_append_drop]
set_option maxRecDepth 100000 in
set_option maxHeartbeats 4000000 in
theorem rscan_calls {W : World} {g : Nat} {L : St} {fp : List Nat} (lo hi : ByteArray) (t0 t1 limit : Int) {r : List S60} (h : RS g L W fp) (hs : Sorted L) (hr : AllR L) (hl : L.length ≤ 1000000) (hS : scanS L lo hi t0 t1 limit = r) :
    Calls Try.prog 42 #[.pointer (some ⟨g, 0, none⟩), .string lo, .string hi, .agg #[.int .u64 t0, .int .u32 t1], .int .i64 limit] W (ScanP W r) := by
  have hm := (Mod.refl W []).alloc (.cells #[.int .u64 t0, .int .u32 t1] 27)
  have hb := blk_new W (.cells #[.int .u64 t0, .int .u32 t1] 27)
  have h' := (thingRS g L).stab h hm (by simp)
  obtain ⟨A, c, rfp, g1, g2, g3, g4, rfl⟩ := h'
  have H := Lib.hid (And.intro (show RS g L (W.alloc (.cells #[.int .u64 t0, .int .u32 t1] 27)) (g :: rfp) from ⟨A, c, rfp, g1, g2, g3, g4, rfl⟩) (And.intro hm (And.intro hb (And.intro hs (And.intro hr (And.intro g1 g2))))))
  have HS := Lib.hid hS
  clear h hm hb hs hr hS g1 g2 g3 g4
  go_enter Try.func42, Try.ntmps42
  go_wp2_with fail
  generalize W.alloc (.cells #[.int .u64 t0, .int .u32 t1] 27) = W2 at H ⊢
  generalize hv : W.heap.size = b at H ⊢
  have HV := Lib.hid hv
  clear hv
  go_loopg [11, 12] L.length (fun k lv i wr => ∃ j : Nat, j ≤ L.length ∧ k = L.length - j ∧ i = .int .i64 j ∧ k60.R 60 wr 0 (fun b => W2.heap.size ≤ b) lv (scanA L (rangeL (L.take j) lo hi) t0 t1 (min limit 32).toNat) ∧ Mod W2 wr [])
  case atStart => exact ⟨0, Nat.zero_le _, rfl, rfl, by
    have e : scanA L (rangeL (L.take 0) lo hi) t0 t1 (min limit 32).toNat = [] := by simp [scanA, rangeL]
    rw [e]; exact Kd.R_nil _ _ _ _ _, Mod.refl _ _⟩
  case round =>
    obtain ⟨j, hj, rfl, rfl, hR, hM⟩ := hrel
    obtain ⟨B, d, rfl, hd, hC⟩ := Kd.R_reads hR
    have hle := scanA_le L (rangeL (L.take j) lo hi) t0 t1 (min limit 32).toNat
    have hgc : wr.cell? ⟨g, 0, none⟩ = some (.slice A L.length c) := (blk_cell (hM.at_ H.out.2.2.2.2.2.1 (by simp)) 0).trans rfl
    by_cases hjl : j < L.length
    · have hjz : (j : Int) < (L.length : Int) := by omega
      obtain ⟨q, vj, rfl, k0, k1, hRj, hqr⟩ := item_at H.out.2.2.2.2.2.2 j hjl
      have e0 := Mod.cellN hM k0 (by simp)
      have s0 : wr.cell? ⟨b, 0, none⟩ = some (.int .u64 t0) := (blk_cell (hM.at_ H.out.2.2.1 (by simp)) 0).trans rfl
      have s1 : wr.cell? ⟨b, 1, none⟩ = some (.int .u32 t1) := (blk_cell (hM.at_ H.out.2.2.1 (by simp)) 1).trans rfl
      have hw : IntKind.i64.wrap ((j : Int) + 1) = ((j + 1 : Nat) : Int) := by rw [i64w (by omega) (by omega)]; omega
      have hrt := rangeL_take L lo hi hjl
      rw [inR_eq'] at hrt
      have hone := scanA_one (L := L) (ks := rangeL (L.take j) lo hi) (k := L[j].1) (t0 := t0) (t1 := t1) (m := (min limit 32).toNat)
      have hmore := scanA_more (L := L) (ks := rangeL (L.take j) lo hi) (ks' := rangeL (L.drop j) lo hi) (t0 := t0) (t1 := t1) (m := (min limit 32).toNat)
      rw [← rangeL_split] at hmore
      have HJ := Lib.hid (And.intro hR (And.intro hM (And.intro hrt (And.intro hone hmore))))
      clear hR hd hC hM hrt hone hmore k0 k1 hRj
      generalize L[j].1 = kk at *
      generalize hac : scanA L (rangeL (L.take j) lo hi) t0 t1 (min limit 32).toNat = ac at *
      have HAC := Lib.hid hac
      clear hac
      by_cases hl1 : limit ≤ (ac.length : Int)
      · have HE : Hid (ac = r) := Lib.hid (by rw [← HS.out]; unfold scanS; rw [HJ.out.2.2.2.2 (by omega)])
        go_wp2
        go_ret
        rw [← HE.out]
        exact scan_fin HJ.out.1 (H.out.2.1.trans HJ.out.2.1 (by simp)) H.out.2.1.size
      · by_cases hl2 : 32 ≤ ac.length
        · have hl2z : (32 : Int) ≤ (ac.length : Int) := by omega
          have HE : Hid (ac = r) := Lib.hid (by rw [← HS.out]; unfold scanS; rw [HJ.out.2.2.2.2 (by omega)])
          go_wp2
          go_ret
          rw [← HE.out]
          exact scan_fin HJ.out.1 (H.out.2.1.trans HJ.out.2.1 (by simp)) H.out.2.1.size
        · have hl2z : ¬ (32 : Int) ≤ (ac.length : Int) := by omega
          have hF : scanF L t0 t1 kk = if (getS L kk t0 t1).2 = true then some ⟨kk, (getS L kk t0 t1).1⟩ else none := rfl
          obtain ⟨x, bx, hx⟩ : ∃ x b, getS L kk t0 t1 = (x, b) := ⟨_, _, rfl⟩
          rw [hx] at hF
          have HX := Lib.hid (And.intro hx hF)
          clear hx hF
          go_wp2_with fail
          refine (rget_calls kk t0 t1 ((thingRS g L).stab H.out.1 HJ.out.2.1 (by simp)) H.out.2.2.2.1 H.out.2.2.2.2.1 hl).mono ?_
          rw [HX.out.1]
          rintro e W3 ⟨rfl, m3⟩
          have H3 := Lib.hid (And.intro m3 (And.intro (HJ.out.2.1.trans m3 (by simp)) (R_mod HJ.out.1 m3)))
          clear m3
          have hskip : (!(Op.bytesLess kk.toList lo.toList) && (hi.toList.isEmpty || Op.bytesLess kk.toList hi.toList)) = false ∨ bx = false → scanA L (rangeL (L.take (j + 1)) lo hi) t0 t1 (min limit 32).toNat = ac := fun h => by
            rw [HJ.out.2.2.1]
            rcases h with h | h
            · rw [h, if_neg (by simp), List.append_nil, HAC.out]
            · split
              · rw [HJ.out.2.2.2.1 (by omega), HX.out.2, h]; simp
              · rw [List.append_nil, HAC.out]
          have hadd : (!(Op.bytesLess kk.toList lo.toList) && (hi.toList.isEmpty || Op.bytesLess kk.toList hi.toList)) = true → bx = true → scanA L (rangeL (L.take (j + 1)) lo hi) t0 t1 (min limit 32).toNat = ac ++ [⟨kk, x⟩] := fun h h2 => by
            rw [HJ.out.2.2.1, h, if_pos rfl, HJ.out.2.2.2.1 (by omega), HX.out.2, h2]; rfl
          have HA := Lib.hid (And.intro hskip hadd)
          clear hskip hadd
          cases bx with
          | false =>
            have HI := Lib.hid (HA.out.1 (.inr rfl))
            go_wp2
            go_roundg (L.length - (j + 1))
            case measure => omega
            case rel => exact ⟨j + 1, by omega, rfl, by rw [show ((j + 1 : Nat) : Int) = (j : Int) + 1 by omega], by rw [HI.out]; exact H3.out.2.2, H3.out.2.1⟩
          | true =>
            cases ca : Op.bytesLess kk.toList lo.toList with
            | true =>
              have HI := Lib.hid (HA.out.1 (.inl (by rw [ca]; rfl)))
              go_wp2
              go_roundg (L.length - (j + 1))
              case measure => omega
              case rel => exact ⟨j + 1, by omega, rfl, by rw [show ((j + 1 : Nat) : Int) = (j : Int) + 1 by omega], by rw [HI.out]; exact H3.out.2.2, H3.out.2.1⟩
            | false =>
              cases cb : hi.toList.isEmpty with
              | true =>
                have HI := Lib.hid (HA.out.2 (by rw [ca, cb]; rfl) rfl)
                go_wp2_with (first | (at_builtin; refine Kd.R_append k60 (w0 := W3) (W := W3) 0 rfl _ _ 52 60 (.agg #[.string ByteArray.empty, .string ByteArray.empty]) 32 rfl Try.underlying52 info60 rfl (by decide) (by decide) (.slice B ac.length d) ac ⟨kk, x⟩ [.string kk, .string x] (fun b => W2.heap.size ≤ b) (fun _ => False) rfl rfl (k60_mkM _ _ _ ⟨kk, x⟩) (fun k h => h.elim) (fun k h => Nat.le_trans H3.out.2.1.size h) H3.out.2.2 (Below.refl _ _) (Nat.zero_le _) (by omega) ?_) | fail)
                intro v2 W4 o2 _ g2 _
                have ok2 : ∀ y ∈ ownList (.slice B ac.length d), W2.heap.size ≤ y := fun y hy => HJ.out.1.1 y (own_mem _ y hy)
                have m2 : Mod W2 W4 [] := H3.out.2.1.trans (mod_own g2) (fun y hy => .inr (ok2 y hy))
                have H4 := Lib.hid (And.intro o2 m2)
                clear o2 g2 m2 ok2
                go_wp2
                go_roundg (L.length - (j + 1))
                case measure => omega
                case rel => exact ⟨j + 1, by omega, rfl, by rw [show ((j + 1 : Nat) : Int) = (j : Int) + 1 by omega], by rw [HI.out]; exact H4.out.1, H4.out.2⟩
              | false =>
                cases cc : Op.bytesLess kk.toList hi.toList with
                | true =>
                  have HI := Lib.hid (HA.out.2 (by rw [ca, cb, cc]; rfl) rfl)
                  go_wp2_with (first | (at_builtin; refine Kd.R_append k60 (w0 := W3) (W := W3) 0 rfl _ _ 52 60 (.agg #[.string ByteArray.empty, .string ByteArray.empty]) 32 rfl Try.underlying52 info60 rfl (by decide) (by decide) (.slice B ac.length d) ac ⟨kk, x⟩ [.string kk, .string x] (fun b => W2.heap.size ≤ b) (fun _ => False) rfl rfl (k60_mkM _ _ _ ⟨kk, x⟩) (fun k h => h.elim) (fun k h => Nat.le_trans H3.out.2.1.size h) H3.out.2.2 (Below.refl _ _) (Nat.zero_le _) (by omega) ?_) | fail)
                  intro v2 W4 o2 _ g2 _
                  have ok2 : ∀ y ∈ ownList (.slice B ac.length d), W2.heap.size ≤ y := fun y hy => HJ.out.1.1 y (own_mem _ y hy)
                  have m2 : Mod W2 W4 [] := H3.out.2.1.trans (mod_own g2) (fun y hy => .inr (ok2 y hy))
                  have H4 := Lib.hid (And.intro o2 m2)
                  clear o2 g2 m2 ok2
                  go_wp2
                  go_roundg (L.length - (j + 1))
                  case measure => omega
                  case rel => exact ⟨j + 1, by omega, rfl, by rw [show ((j + 1 : Nat) : Int) = (j : Int) + 1 by omega], by rw [HI.out]; exact H4.out.1, H4.out.2⟩
                | false =>
                  have HI := Lib.hid (HA.out.1 (.inl (by rw [ca, cb, cc]; rfl)))
                  go_wp2
                  go_roundg (L.length - (j + 1))
                  case measure => omega
                  case rel => exact ⟨j + 1, by omega, rfl, by rw [show ((j + 1 : Nat) : Int) = (j : Int) + 1 by omega], by rw [HI.out]; exact H3.out.2.2, H3.out.2.1⟩
    · obtain rfl : j = L.length := by omega
      have hjz : ¬ (L.length : Int) < (L.length : Int) := by omega
      have HE : Hid (scanA L (rangeL (L.take L.length) lo hi) t0 t1 (min limit 32).toNat = r) := Lib.hid (by rw [List.take_length]; exact HS.out)
      have HJ := Lib.hid (And.intro hR hM)
      clear hR hd hC hM hle
      generalize hac : scanA L (rangeL (L.take L.length) lo hi) t0 t1 (min limit 32).toNat = ac at *
      clear hac
      go_wp2
      go_ret
      rw [← HE.out]
      exact scan_fin HJ.out.1 (H.out.2.1.trans HJ.out.2 (by simp)) H.out.2.1.size
set_option maxRecDepth 100000 in
set_option maxHeartbeats 4000000 in
theorem rsame9_calls {W : World} {A B : Option Addr} {c d : Nat} {L : St} {ok ok' : Nat → Prop} (h1 : k56.R 56 W 0 ok (.slice A L.length c) (itemsL L)) (h2 : k56.R 56 W 0 ok' (.slice B L.length d) (itemsL L)) (hr : AllR L) (hl : L.length ≤ 1000000) :
    Calls Try.prog 43 #[.slice A L.length c, .slice B L.length d] W (BoolP W true) := by
  have H := Lib.hid (And.intro h1 (And.intro h2 hr))
  clear h1 h2 hr
  go_enter Try.func43, Try.ntmps43
  go_wp2_with fail
  go_loopg [5] L.length (fun k i wr => ∃ j : Nat, j ≤ L.length ∧ k = L.length - j ∧ i = .int .i64 j ∧ Mod W wr [])
  case atStart => exact ⟨0, Nat.zero_le _, rfl, rfl, Mod.refl _ _⟩
  case round =>
    obtain ⟨j, hj, rfl, rfl, hM⟩ := hrel
    by_cases hjl : j < L.length
    · have hjz : (j : Int) < (L.length : Int) := by omega
      obtain ⟨q, vj, rfl, k0, k1, hRj, _⟩ := item_at (R_mod H.out.1 hM) j hjl
      obtain ⟨q2, wj, rfl, n0, n1, hSj, _⟩ := item_at (R_mod H.out.2.1 hM) j hjl
      obtain ⟨Aj, cj, rfl, hcj, hCj⟩ := Kd.R_reads hRj
      obtain ⟨Bj, dj, rfl, hdj, hDj⟩ := Kd.R_reads hSj
      have hln := (H.out.2.2 _ (List.getElem_mem hjl)).n
      have hw : IntKind.i64.wrap ((j : Int) + 1) = ((j + 1 : Nat) : Int) := by rw [i64w (by omega) (by omega)]; omega
      have HM := Lib.hid (And.intro hM (And.intro hCj hDj))
      clear hM hCj hDj hRj hSj hcj hdj
      generalize L[j].1 = kk at *
      generalize L[j].2 = l at *
      go_upto_region 6 with fail
      go_region_held3 (fun w' => w'.cell? ⟨q, j * 2, none⟩ = some (.string kk) ∧ w'.cell? ⟨q, j * 2 + 1, none⟩ = some (.slice Aj l.length cj) ∧ w'.cell? ⟨q2, j * 2, none⟩ = some (.string kk) ∧ w'.cell? ⟨q2, j * 2 + 1, none⟩ = some (.slice Bj l.length dj)) (go_keep) (first
        | (go_at_call 14
           refine (rsame_calls (l := l) rfl rfl ?_ ?_ (by omega)).mono ?_
           · first | exact HM.out.2.1 | exact Kd.C_drewN HM.out.2.1 _ | exact Kd.C_drew HM.out.2.1
           · first | exact HM.out.2.2 | exact Kd.C_drewN HM.out.2.2 _ | exact Kd.C_drew HM.out.2.2
           rintro e W4 ⟨rfl, m4⟩
           have n4 : Mod wr W4 [] := by
             refine Mod.trans ?_ m4 (by simp)
             (with_reducible repeat (first | exact Mod.refl _ _ | refine Mod.alloc ?_ _ | refine Mod.drewN ?_ _ | refine Mod.drew ?_))
           have x0 := Mod.cellN n4 k0 (by simp)
           have x1 := Mod.cellN n4 k1 (by simp)
           have x2 := Mod.cellN n4 n0 (by simp)
           have x3 := Mod.cellN n4 n1 (by simp)
           have H4 := Lib.hid (HM.out.1.trans n4 (by simp))
           clear m4 n4))
      all_goals
        go_wp2
        go_roundg (L.length - (j + 1))
        case measure => omega
        case rel => exact ⟨j + 1, by omega, rfl, by rw [show ((j + 1 : Nat) : Int) = (j : Int) + 1 by omega], H4.out⟩
    · obtain rfl : j = L.length := by omega
      have hjz : ¬ (L.length : Int) < (L.length : Int) := by omega
      have HM := Lib.hid hM
      clear hM
      go_wp2
      go_ret
      exact ⟨rfl, HM.out⟩
end Go.Proofs.Ytomcjcoehahikaa.Sto
