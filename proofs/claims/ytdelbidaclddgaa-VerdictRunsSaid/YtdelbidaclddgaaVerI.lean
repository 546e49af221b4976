/- The layer 'verdict': VerI; a seat's own text, no law of its own. -/
import Derived.Test.YtdelbidaclddgaaVerH
import Derived.Shelf.SlIter.Collect
import Derived.RangeFuncBound
import Derived.Sort.OwnSorted
import Derived.Deep.LoopGhost
import Derived.Deep.Cut
import Derived.Lib.Hide
import Derived.StillTailTactics
import Derived.Deep.QuietTactic
import Derived.BigQuiet
import Derived.Outline
import Derived.Deep.RegionWith
import Derived.Deep.RegionHeld3
import Derived.WalkLawsBesides
namespace Go.Proofs.Ytdelbidaclddgaa.Ver
open Go.RowKit Go.Proofs.YtdelbidaclddgaaW.PrintWords Go.Proofs.Ytdelbidaclddgaa.MVerdictRuns Go.Proofs.YtdelbidaclddgaaW.PrintLast
set_option linter.unusedVariables false
set_option linter.unusedSimpArgs false
/-! maps.Values at the book: the verdicts come, each once, in some order -/
open Go.Maps Go.Sort
def kb (v : S37) : List UInt8 := keyBytes [.int .u32 v.f0.f0, .int .u32 v.f0.f1]
theorem klit_kb (v : S37) : klit (kcV v) (knV v) = .string (kb v) := rfl
theorem bd_at {L : List S37} (hR : RgsV L) {c n : Int} (hk : inK c n) {v : S37} (hat : ∀ zd, (BD L).atKey (klit c n) zd = gV v) : v ∈ L ∧ v.f0.f0 = c ∧ v.f0.f1 = n := by
  obtain ⟨h1, h2, h3, h4⟩ := hk
  have h := hat .nil
  rw [map_at h1 h2 h3 h4 L hR] at h
  cases hf : vfind kcV knV c n L with
  | none => rw [hf] at h; unfold gV at h; cases h
  | some u =>
    rw [hf] at h
    obtain rfl := gV_inj h
    obtain ⟨e1, e2, e3⟩ := find_key hf
    exact ⟨e3, e1, e2⟩
theorem vals_perm {L vs : List S37} (hO : OrdV L) (hR : RgsV L) {left : Lit → Bool} (hl : ∀ kl, left kl = false) (hC : Collected (BD L) left (vs.map kb)) (hV : ∀ v ∈ vs, v ∈ L) : vs.Perm L := by
  have n1 : vs.Nodup := by
    exact (List.pairwise_map.1 hC.1).imp (fun h e => h (congrArg kb e))
  have n2 : L.Nodup := hO.imp (fun {x y} h e => by subst e; unfold kcV knV at h; omega)
  refine (List.perm_ext_iff_of_nodup n1 n2).2 fun v => ⟨hV v, fun hv => ?_⟩
  obtain ⟨r1, r2, r3, r4⟩ := hR v hv
  have hh : Maps.has (BD L) (.string (kb v)) = true := by
    rw [← klit_kb, map_has r1 r2 r3 r4 L hR]
    unfold vfind
    rw [List.find?_isSome]
    exact ⟨v, hv, by simp⟩
  have hm := (hC.2 (kb v)).2 ⟨hh, hl _⟩
  obtain ⟨u, hu, e⟩ := List.mem_map.1 hm
  have huL := hV u hu
  obtain ⟨q1, q2, q3, q4⟩ := hR u huL
  have e2 : (klit (kcV u) (knV u)).sameKey (klit (kcV v) (knV v)) = true := by
    rw [klit_kb, klit_kb, e]
    exact beq_self_eq_true _
  rw [klit_same q1 q2 q3 q4 r1 r2 r3 r4] at e2
  have e3 := of_decide_eq_true e2
  have : u = v := by
    rcases Classical.em (u = v) with h | h
    · exact h
    · exfalso
      have key : ∀ {l : List S37}, OrdV l → u ∈ l → v ∈ l → False := by
        intro l hl hu hv
        induction l with
        | nil => cases hu
        | cons x r ih =>
          obtain ⟨o1, o2⟩ := List.pairwise_cons.1 hl
          rcases List.mem_cons.1 hu with e1 | hu2
          · rcases List.mem_cons.1 hv with e2 | hv2
            · exact h (e1.trans e2.symm)
            · have := o1 v hv2; rw [← e1] at this; omega
          · rcases List.mem_cons.1 hv with e2 | hv2
            · have := o1 u hu2; rw [← e2] at this; omega
            · exact ih o2 hu2 hv2
      exact key hO huL hv
  rw [← this]
  exact hu
set_option maxRecDepth 100000 in
set_option maxHeartbeats 4000000 in
theorem vals1N (n : Nat) (hn : 1 ≤ n) (l Bm b nn : Nat) (L : List S37) (hO : OrdV L) (hR : RgsV L) (J : List S37 → World → Prop)
    (hY : ∀ pre x W, J pre W → pre.length < L.length → YieldAt Fence.wide (n - 1) Try.prog l #[encV x] W fun e W' => e = .returned (.bool true) ∧ J (pre ++ [x]) W' ∧ KeepsWalks W W')
    (W : World) (hJ : AbidesFrom W.heap.size J) (hm : W.cell? ⟨Bm, 0, none⟩ = some (.map (some b))) (hown : W.ownsMap Try.prog 32 RV b nn (BD L)) (h0 : J [] W) :
    CallsIn Fence.wide n Try.prog 79 #[.func (.yield l) #[] #[], .pointer (some ⟨Bm, 0, none⟩)] W fun e W' => (∃ v, e = .returned v) ∧ ∃ vs : List S37, vs.Perm L ∧ J vs W' := by
  have hsz : Maps.size (BD L) = L.length := map_size L
  refine callsIn_of_wp Try.func79 rfl trivial ?_ rfl
  simp only [Try.ntmps79, List.size_toArray, List.length_cons, List.length_nil, Nat.reduceAdd, Nat.reduceSub, Array.replicate_succ, Array.replicate_zero, List.push_toArray, List.append_toArray, List.nil_append, List.cons_append]
  gi_wp2_with (first
    | (gi_at_range; refine wpListIn_range_own _ rfl _ 83 rfl 32 37 law32 Try.underlying83 RV b nn _ rfl hown ?_; intro w0 hrg0 hg0 hs0)
    | gi_in)
  go_frame
  gi_loopw [4] (fun _ wr => ∃ (left : Lit → Bool) (cnt : Nat) (vs : List S37), wr.ranges Try.prog 32 RV b W.heap.size nn (BD L) left cnt ∧ vs.length + cnt ≤ Maps.size (BD L) ∧ Collected (BD L) left (vs.map kb) ∧ (∀ v ∈ vs, v ∈ L) ∧ J vs wr)
    (fun _ wr => wr.rangeLeft b W.heap.size)
  case atStart =>
    exact ⟨_, _, [], hrg0, by simp, Collected.start _, by simp, hJ [] W w0 none h0 hg0 (fun r e => by cases e)⟩
  case round =>
    obtain ⟨left, cnt, vs, hrg, hcs, hC, hV, hJs⟩ := hrel
    gi_wp2_with (first
      | (gi_at_next; refine wpListIn_next_ranges _ rfl _ rfl 32 law32 RV (fun x : Int × Int => keyV x.1 x.2) encV (fun key kl hk => by obtain ⟨c, n, rfl, _, _⟩ := key_inv hk; exact ⟨(c, n), rfl⟩) (fun v y hv => by obtain ⟨u, rfl, _⟩ := RV_inv hv; exact ⟨u, rfl⟩) b W.heap.size nn _ _ _ rfl hrg ?_ ?_)
      | gi_in)
    · -- nothing is left
      intro hc0 hl0
      gi_wp2
      go_end0
      exact ⟨⟨_, rfl⟩, vs, vals_perm hO hR hl0 hC hV, hJs⟩
    · -- an entry has come
      intro c n' v kl yd yp w2 cnt2 hkey hlk hv hat hrg2 hlt hg2 hs2 hen
      obtain ⟨c'', n'', ek, hin, rfl⟩ := key_inv hkey
      obtain ⟨rfl, rfl⟩ : c'' = c ∧ n'' = n' := by
        unfold keyV at ek
        injection ek with ek
        have e1 := congrArg Array.toList ek
        simp at e1
        exact ⟨e1.1.symm, e1.2.symm⟩
      obtain rfl : yd = gV v := (Prod.mk.inj (Option.some.inj ((RV_enc v).symm.trans hv))).1.symm
      obtain ⟨hvL, rfl, rfl⟩ := bd_at hR hin hat
      have hJ2 : J vs w2 := hJ vs wr w2 (some W.heap.size) hJs hg2 (fun r e => by cases e; exact ⟨Nat.le_refl _, hrg.iter_walk⟩)
      have ga := grown_of_mod ((Mod.refl w2 []).alloc (.cells #[.int .u32 v.f0.f0, .int .u32 v.f0.f1, .int .u64 v.f1.f0, .int .u32 v.f1.f1, .int .u64 v.f2.f0, .int .u32 v.f2.f1, .int .u8 v.f3, .bool v.f4] 37))
      have hJ3 : J vs (w2.alloc (.cells #[.int .u32 v.f0.f0, .int .u32 v.f0.f1, .int .u64 v.f1.f0, .int .u32 v.f1.f1, .int .u64 v.f2.f0, .int .u32 v.f2.f1, .int .u8 v.f3, .bool v.f4] 37)) := hJ vs w2 _ none hJ2 ga (fun r e => by cases e)
      have hrg3 := hrg2.kept ga (by simp) (by simp)
      have hb3 : BV (w2.alloc (.cells #[.int .u32 v.f0.f0, .int .u32 v.f0.f1, .int .u64 v.f1.f0, .int .u32 v.f1.f1, .int .u64 v.f2.f0, .int .u32 v.f2.f1, .int .u8 v.f3, .bool v.f4] 37)) w2.heap.size v := blk_new w2 _
      obtain ⟨e0, e1, e2, e3, e4, e5, e6, e7⟩ := hb3.all
      have hy := hY vs v (w2.alloc (.cells #[.int .u32 v.f0.f0, .int .u32 v.f0.f1, .int .u64 v.f1.f0, .int .u32 v.f1.f1, .int .u64 v.f2.f0, .int .u32 v.f2.f1, .int .u8 v.f3, .bool v.f4] 37)) hJ3 (by omega)
      obtain ⟨fn, tmps, assign, body, hy, hRR⟩ := hy
      unfold keyV encV at hen
      unfold encV at hy
      clear hs2 ek hkey hv
      gi_wp2
      refine hRR.mono ?_
      rintro e W3 ⟨rfl, hJ4, hk3⟩
      gi_wp2
      have hrg4 := hrg3.of_walks hk3
      go_roundw
      case rel =>
        refine ⟨_, cnt2, vs ++ [v], hrg4, by simp; omega, ?_, fun u hu => (List.mem_append.1 hu).elim (hV u) (fun e => by simp at e; subst e; exact hvL), hJ4⟩
        rw [List.map_append]
        exact hC.step (x := kb v) hlk hat
      case measure => rw [hrg4.left_eq, hrg.left_eq]; exact hlt
/-- maps.Values hands back an iterator over the book's verdicts -/
theorem vals_gives (n : Nat) (hn : 1 ≤ n) (Bm b nn : Nat) (L : List S37) (hO : OrdV L) (hR : RgsV L) (w : World) (hBm : Bm < w.heap.size) (hm : w.cell? ⟨Bm, 0, none⟩ = some (.map (some b))) (hown : w.ownsMap Try.prog 32 RV b nn (BD L)) :
    SeqGives Fence.wide n Try.prog 79 #[.pointer (some ⟨Bm, 0, none⟩)] encV (fun vs => vs.Perm L) L.length w := fun l J W hW hJ hY h0 => by
  have hown' : W.ownsMap Try.prog 32 RV b nn (BD L) := by
    have hbl := hown.lt
    obtain ⟨es, clock, hb, Ft, hs, hD⟩ := hown
    exact ⟨es, clock, (hW.block b hbl).trans hb, Ft, hs, hD⟩
  exact vals1N n hn l Bm b nn L hO hR J hY W hJ ((hW.cell (p := ⟨Bm, 0, none⟩) hBm).trans hm) hown' h0
end Go.Proofs.Ytdelbidaclddgaa.Ver
