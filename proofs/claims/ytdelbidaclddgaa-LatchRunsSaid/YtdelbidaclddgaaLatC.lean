/- The layer 'latch': LatC; a seat's own text, no law of its own. -/
import Derived.Test.YtdelbidaclddgaaLatB
import Derived.Deep.LoopGhost
import Derived.Deep.Cut
import Derived.Lib.Hide
import Derived.StillTailTactics
import Derived.Deep.QuietTactic
import Derived.BigQuiet
import Derived.Outline
import Derived.Deep.RegionWith
import Derived.Deep.RegionHeld3
import Derived.WalkLawsBesides
namespace Go.Proofs.Ytdelbidaclddgaa.Lat
open Go.RowKit Go.Proofs.YtdelbidaclddgaaW.PrintWords Go.Proofs.Ytdelbidaclddgaa.MLatchRuns Go.Proofs.YtdelbidaclddgaaW.PrintLast
set_option linter.unusedVariables false
set_option linter.unusedSimpArgs false
/-! Of -/
def findI (key : ByteArray) (L : List S65) : Option S65 := L.find? fun x => decide (x.f4.f0.toList = key.toList)
theorem findI_some {key : ByteArray} {L : List S65} {y : S65} (e : findI key L = some y) : y ∈ L ∧ y.f4.f0 = key := ⟨List.mem_of_find?_eq_some e, bytes_ext (by have h := List.find?_some e; exact of_decide_eq_true h)⟩
theorem lget_find (key : ByteArray) : ∀ {L : List S65}, Sorted (L.map pairOf) → lget (L.map pairOf) key = (findI key L).map fun x => ⟨x.f0, x.f4⟩
  | [], _ => rfl
  | y :: r, hs => by
    obtain ⟨s1, s2⟩ := List.pairwise_cons.1 hs
    have ih := lget_find key s2
    show (if Tree.lt y.f4.f0 key = true then lget (r.map pairOf) key else if key.toList = y.f4.f0.toList then some (⟨y.f0, y.f4⟩ : S105) else none) = _
    unfold findI at ih ⊢
    rw [List.find?_cons]
    by_cases c1 : Tree.lt y.f4.f0 key = true
    · rw [if_pos c1, decide_eq_false (fun e => lt_ne c1 e), ih]
    · rw [if_neg c1]
      by_cases c2 : key.toList = y.f4.f0.toList
      · rw [if_pos c2, decide_eq_true c2.symm]
        rfl
      · rw [if_neg c2, decide_eq_false (fun e => c2 e.symm)]
        show _ = Option.map _ (List.find? _ r)
        rw [List.find?_eq_none.2 (fun x hx hd => ?_)]
        · rfl
        · have e := of_decide_eq_true hd
          have h1 : Tree.lt y.f4.f0 x.f4.f0 = true := s1 (pairOf x) (List.mem_map_of_mem hx)
          rw [lt_r e] at h1
          exact c1 h1
def ofEnd : Option S65 → Ending
  | none => .returned (.tuple #[.agg #[.int .u32 0, .int .u32 0, .int .u64 0, .int .u32 0, .int .u64 0, .int .u32 0, .string ⟨#[]⟩, .string ⟨#[]⟩, .string ⟨#[]⟩, .bool false], .bool false])
  | some y => .returned (.tuple #[.agg #[.int .u32 y.f0.f0, .int .u32 y.f0.f1, .int .u64 y.f1.f0, .int .u32 y.f1.f1, .int .u64 y.f2.f0, .int .u32 y.f2.f1, .string y.f3, .string y.f4.f0, .string y.f4.f1, .bool y.f4.f2], .bool true])
/-- a struct of the call's own, and the table -/
structure Oz (W V : World) (q t hb m kb : Nat) (Hs : List Hd) (K : List (ByteArray × S105)) (fk : List Nat) : Prop where
  hM : Mod W V []
  hT : TB V t hb m kb Hs K fk
  hI : IB V q z65
  hq : W.heap.size ≤ q
  hl : ∀ x ∈ blocks t hb fk Hs, x < W.heap.size
theorem Oz.mod {W V V' : World} {q t hb m kb : Nat} {Hs : List Hd} {K : List (ByteArray × S105)} {fk : List Nat} (h : Oz W V q t hb m kb Hs K fk) (mm : Mod V V' []) : Oz W V' q t hb m kb Hs K fk :=
  ⟨h.hM.trans mm (fun _ hk => by cases hk), h.hT.mod0 mm, h.hI.mod mm (by simp), h.hq, h.hl⟩
theorem Oz.made {W : World} {t hb m kb : Nat} {Hs : List Hd} {K : List (ByteArray × S105)} {fk : List Nat} (h : TB W t hb m kb Hs K fk) : Oz W (W.alloc (.cells #[.int .u32 z65.f0.f0, .int .u32 z65.f0.f1, .int .u64 z65.f1.f0, .int .u32 z65.f1.f1, .int .u64 z65.f2.f0, .int .u32 z65.f2.f1, .string z65.f3, .string z65.f4.f0, .string z65.f4.f1, .bool z65.f4.f2] 65)) W.heap.size t hb m kb Hs K fk :=
  ⟨(Mod.refl W []).alloc _, h.mod0 ((Mod.refl W []).alloc _), blk_new W _, Nat.le_refl _, h.lt⟩
set_option maxHeartbeats 4000000 in
set_option maxRecDepth 100000 in
theorem of_calls {W : World} {t m : Nat} {L : List S65} {fp : List Nat} (h : Tab W t m L fp) (key : ByteArray) :
    Calls Try.prog 33 #[.pointer (some ⟨t, 0, none⟩), .string key] W fun e W' => e = ofEnd (findI key L) ∧ Mod W W' [] := by
  obtain ⟨hb, kb, Hs, fk, h1, lk, rfl⟩ := h
  have hg := lget_find key h1.hk.sorted
  have H1 := Lib.hid (Oz.made h1)
  simp only [z65, z32, z35, z63] at H1
  have HL := Lib.hid lk
  clear h1 lk
  cases hf : findI key L with
  | none =>
    rw [hf] at hg
    have HG := Lib.hid hg
    clear hg hf
    go_enter Try.func33, Try.ntmps33
    go_upto_region 3 with fail
    generalize W.alloc _ = W1 at *
    generalize W.heap.size = q at *
    have c1 := H1.out.hT.c1
    go_wp2_with fail
    refine (mget key H1.out.hT.hk).mono ?_
    rw [HG.out]
    simp only [getEnd, Option.map_none]
    rintro e W2 ⟨rfl, m2⟩
    have H2 := Lib.hid ((H1.out.mod m2).mod ((Mod.refl W2 []).alloc (.cells #[.int .u32 0, .int .u32 0, .string ⟨#[]⟩, .string ⟨#[]⟩, .bool false] 105)))
    clear m2 H1 c1
    go_upto_region 4 with fail
    generalize W2.alloc _ = W3 at *
    obtain ⟨c0, c1, c2, c3, c4, c5, c6, c7, c8, c9⟩ := H2.out.hI.all
    simp only [z65, z32, z35, z63] at c0 c1 c2 c3 c4 c5 c6 c7 c8 c9
    have fz := blk_frozen H2.out.hI
    go_wp2
    have hp := H2.out.hI.put z65
    have hm := H2.out.hM.putIB (.inr H2.out.hq) z65
    unfold putIB at hp hm
    unfold IB at hp
    refine bodyPost_ret (results_ct rfl _ _ q 65 _ (0, 0) _ rfl hp Try.underlying65 rfl (by kernel_rfl)) rfl ?_
    exact ⟨rfl, hm⟩
  | some y =>
    rw [hf] at hg
    obtain ⟨hy, -⟩ := findI_some hf
    obtain ⟨hh, hin, e1, e2, e3, e4, e5⟩ := HL.out.hd y hy
    have hfh := findH_at H1.out.hT.ord hin
    rw [e1, e2] at hfh
    have hr := H1.out.hT.rgs hh hin
    have hk : inK y.f0.f0 y.f0.f1 := by rw [← e1, ← e2]; exact hr
    have HG := Lib.hid (And.intro hg (And.intro hk (And.intro hin (And.intro hfh (And.intro e3 (And.intro e4 e5))))))
    clear hg hf hy e1 e2 e3 e4 e5 hfh hr hk hin
    go_enter Try.func33, Try.ntmps33
    go_upto_region 3 with fail
    generalize W.alloc _ = W1 at *
    generalize W.heap.size = q at *
    have c1 := H1.out.hT.c1
    go_wp2_with fail
    refine (mget key H1.out.hT.hk).mono ?_
    rw [HG.out.1]
    simp only [getEnd, Option.map_some]
    rintro e W2 ⟨rfl, m2⟩
    have H2 := Lib.hid ((H1.out.mod m2).mod ((Mod.refl W2 []).alloc (.cells #[.int .u32 y.f0.f0, .int .u32 y.f0.f1, .string y.f4.f0, .string y.f4.f1, .bool y.f4.f2] 105)))
    have o3 : OB (W2.alloc (.cells #[.int .u32 y.f0.f0, .int .u32 y.f0.f1, .string y.f4.f0, .string y.f4.f1, .bool y.f4.f2] 105)) W2.heap.size ⟨y.f0, y.f4⟩ := blk_new W2 _
    have hq3 : q ≠ W2.heap.size := by have := blk_lt (H1.out.hI.mod m2 (by simp)); omega
    have HQ := Lib.hid hq3
    clear m2 H1 c1 hq3
    go_upto_region 4 with fail
    generalize W2.alloc _ = W3 at *
    generalize W2.heap.size = q3 at *
    go_upto_region 6 with fail
    have HS : Hid (∀ W', Mod W3 W' [q] → W'.cell? ⟨t, 0, none⟩ = some (.map (some hb)) ∧ W'.cell? ⟨q3, 0, none⟩ = some (.int .u32 y.f0.f0) ∧ W'.cell? ⟨q3, 1, none⟩ = some (.int .u32 y.f0.f1) ∧ W'.cell? ⟨q3, 2, none⟩ = some (.string y.f4.f0) ∧ W'.cell? ⟨q3, 3, none⟩ = some (.string y.f4.f1) ∧ W'.cell? ⟨q3, 4, none⟩ = some (.bool y.f4.f2) ∧ (Instr.lookup 101 (.map (some hb)) (.agg #[.int .u32 y.f0.f0, .int .u32 y.f0.f1]) false).run Try.prog W' = .ok (.pointer (some ⟨hh.q, 0, none⟩)) W') := Lib.hid fun W' mm => by
      have hT := H2.out.hT.mod mm (fun x hx hm => by simp at hm; subst hm; have := H2.out.hl _ hx; have := H2.out.hq; omega)
      have hl := hlook hT.hm hT.rgs HG.out.2.1
      rw [HG.out.2.2.2.1] at hl
      obtain ⟨d0, d1, d2, d3, d4⟩ := (o3.mod mm (by simpa using HQ.out.symm)).all
      exact ⟨hT.c0, d0, d1, d2, d3, d4, hl⟩
    clear o3
    go_region_held3 (fun W' => W'.cell? ⟨t, 0, none⟩ = some (.map (some hb)) ∧ W'.cell? ⟨q3, 0, none⟩ = some (.int .u32 y.f0.f0) ∧ W'.cell? ⟨q3, 1, none⟩ = some (.int .u32 y.f0.f1) ∧ W'.cell? ⟨q3, 2, none⟩ = some (.string y.f4.f0) ∧ W'.cell? ⟨q3, 3, none⟩ = some (.string y.f4.f1) ∧ W'.cell? ⟨q3, 4, none⟩ = some (.bool y.f4.f2) ∧ (Instr.lookup 101 (.map (some hb)) (.agg #[.int .u32 y.f0.f0, .int .u32 y.f0.f1]) false).run Try.prog W' = .ok (.pointer (some ⟨hh.q, 0, none⟩)) W')
      (first | exact HS.out _ (by (with_reducible repeat (first | exact N4q.out | exact Mod.refl _ _ | refine Mod.drew ?_ | refine Mod.setCell ?_ (.inl (by simp)) _)))) (first
      | (go_at_call 68
         (
           refine Calls.mono (intent_calls (h := hh) ?hb y HG.out.2.2.2.2.1 HG.out.2.2.2.2.2.1 HG.out.2.2.2.2.2.2) ?_
           case hb => exact (H2.out.hT.mod0 (by (with_reducible repeat (first | exact Mod.refl _ _ | refine Mod.alloc ?_ _ | refine Mod.drewN ?_ _ | refine Mod.drew ?_)))).hh hh HG.out.2.2.1
           rintro e V4 ⟨rfl, m4⟩
           have n4 : Mod W3 V4 [] := by
             refine Mod.trans ?_ m4 (fun _ hk => by cases hk)
             (with_reducible repeat (first | exact Mod.refl _ _ | refine Mod.alloc ?_ _ | refine Mod.drewN ?_ _ | refine Mod.drew ?_))
           have N4 := Lib.hid n4
           have N4q := Lib.hid (n4.mono (fp' := [q]) (fun _ hk => by cases hk))
           have z4 := H2.out.hI.mod n4 (by simp)
           have fz := blk_frozen z4
           obtain ⟨c0, c1, c2, c3, c4, c5, c6, c7, c8, c9⟩ := z4.all
           simp only [z65, z32, z35, z63] at c0 c1 c2 c3 c4 c5 c6 c7 c8 c9
           have Z4 := Lib.hid z4
           clear n4 m4 z4)))
    all_goals
      go_wp2
      have hp := Z4.out.put y
      have hm := (H2.out.hM.trans N4.out (fun _ hk => by cases hk)).putIB (.inr H2.out.hq) y
      unfold putIB at hp hm
      unfold IB at hp
      refine bodyPost_ret (results_ct rfl _ _ q 65 _ (0, 0) _ rfl hp Try.underlying65 rfl (by kernel_rfl)) rfl ?_
      exact ⟨rfl, hm⟩
end Go.Proofs.Ytdelbidaclddgaa.Lat
