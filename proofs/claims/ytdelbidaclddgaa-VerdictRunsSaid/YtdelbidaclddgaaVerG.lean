/- The layer 'verdict': VerG; a seat's own text, no law of its own. -/
import Derived.Test.YtdelbidaclddgaaVerF
import Derived.Deep.LoopGhost
import Derived.Deep.Cut
import Derived.Lib.Hide
import Derived.StillTailTactics
import Derived.Deep.QuietTactic
import Derived.BigQuiet
import Derived.Outline
import Derived.Deep.RegionWith
import Derived.Deep.RegionHeld3
import Derived.WalkLawsBesides
namespace Go.Proofs.Ytdelbidaclddgaa.Ver
open Go.RowKit Go.Proofs.YtdelbidaclddgaaW.PrintWords Go.Proofs.Ytdelbidaclddgaa.MVerdictRuns Go.Proofs.YtdelbidaclddgaaW.PrintLast
set_option linter.unusedVariables false
set_option linter.unusedSimpArgs false
def retL (s : S35) (keep : List S32) (L : List S37) : List S37 := L.filter fun v => !diesB s keep v
theorem filter_ord {L : List S37} (h : OrdV L) (f : S37 → Bool) : OrdV (L.filter f) := List.Pairwise.filter f h
theorem filter_rgs {L : List S37} (h : RgsV L) (f : S37 → Bool) : RgsV (L.filter f) := fun v hv => h v (List.mem_filter.1 hv).1
theorem cell_map {W : World} {a : Addr} {es : Array MapEntry} {clock : Nat} (h : W.heap[a.block]? = some (.map es clock)) : W.cell? a = none := by
  unfold World.cell?
  rw [h]
theorem cell_none {W : World} {a : Addr} (h : W.heap[a.block]? = none) : W.cell? a = none := by
  unfold World.cell?
  rw [h]
theorem keep_mod {W V : World} {A : Option Addr} {n : Nat} {l : List S32} {b : Nat} {es : Array MapEntry} {clock : Nat} (h : Kd.C k32 W A n l) (hb : W.heap[b]? = some (.map es clock)) (m : Mod W V [b]) : Kd.C k32 V A n l := by
  refine ⟨h.1, h.2.1, fun h0 => ?_⟩
  obtain ⟨ad, e, hc⟩ := h.2.2 h0
  refine ⟨ad, e, fun j p hj => ?_⟩
  obtain ⟨c, hs, hr, hcell⟩ := hc j p hj
  refine ⟨c, hs, hr, fun i u hi => ?_⟩
  have h1 := hcell i u hi
  have hne : (ad.add (j * k32.sz + i)).block ≠ b := fun e => by
    rw [cell_map (by rw [e]; exact hb)] at h1
    cases h1
  have hlt : (ad.add (j * k32.sz + i)).block < W.heap.size := by
    rcases Nat.lt_or_ge (ad.add (j * k32.sz + i)).block W.heap.size with h | h
    · exact h
    · rw [cell_none (Array.getElem?_eq_none h)] at h1; cases h1
  rw [World.cell?_of_block (w := W) (m.block _ hlt (by simpa using hne))]
  exact h1
def RetP (W : World) (p b m : Nat) (L L' : List S37) (e : Ending) (W' : World) : Prop := e = .returned (.int .i64 ((L.length : Int) - (L'.length : Int))) ∧ Book W' p b m L' ∧ Mod W W' [b]
set_option maxHeartbeats 4000000 in
set_option maxRecDepth 100000 in
theorem ret_calls {W : World} {p b m : Nat} {L : List S37} (h : Book W p b m L) (hm : m ≤ 1000000000) (s : S35) (A : Option Addr) (k : Nat) (keep : List S32) (hr : Kd.C k32 W A keep.length keep) (hc : keep.length ≤ k) (hl : keep.length ≤ 4611686018427387904) :
    Calls Try.prog 18 #[.pointer (some ⟨p, 0, none⟩), .agg #[.int .u64 s.f0, .int .u32 s.f1], .slice A keep.length k] W (RetP W p b m L (retL s keep L)) := by
  have hp := h.lt
  have hbl := h.ltb
  have hlen := h.len
  have K4 := blk_new W (.cells #[.int .u64 s.f0, .int .u32 s.f1] 35)
  have M4 := (Mod.refl W []).alloc (.cells #[.int .u64 s.f0, .int .u32 s.f1] 35)
  have K5 := blk_new (W.alloc (.cells #[.int .u64 s.f0, .int .u32 s.f1] 35)) (.cells #[.slice A keep.length k] 38)
  have M5 := (Mod.refl (W.alloc (.cells #[.int .u64 s.f0, .int .u32 s.f1] 35)) []).alloc (.cells #[.slice A keep.length k] 38)
  have hs : (W.alloc (.cells #[.int .u64 s.f0, .int .u32 s.f1] 35)).heap.size = W.heap.size + 1 := by simp
  rw [hs] at K5
  go_enter Try.func18, Try.ntmps18
  go_upto_region 1 with fail
  generalize W.alloc (.cells #[.int .u64 s.f0, .int .u32 s.f1] 35) = W4 at *
  generalize W4.alloc (.cells #[.slice A keep.length k] 38) = W5 at *
  generalize hg : W.heap.size = g at *
  have M45 := M4.trans M5 (fun _ hk => by cases hk)
  have HB := Lib.hid (h.mod M45 (by simp) (by simp))
  have HC : Hid (Caps W5 g (g + 1) s A k keep) := Lib.hid ⟨M5.at_ K4 (by simp), K5, Kd_C_mod hr M45, hc, hl⟩
  have HM := Lib.hid M45
  have c0 := HB.out.c0
  have hsz := blk_lt K5
  have hdel := del_calls HB.out.hm HB.out.rgs (diesB s keep) (.pointer (some ⟨g, 0, none⟩)) (.pointer (some ⟨g + 1, 0, none⟩)) (fun V v mV => by
    obtain ⟨es, clock, hb, _⟩ := HB.out.hm
    have hc2 : Caps V g (g + 1) s A k keep := ⟨mV.at_ HC.out.hs (by simp; omega), mV.at_ HC.out.hk (by simp; omega), keep_mod HC.out.hr hb mV, HC.out.hc, HC.out.hl⟩
    exact clo_calls hc2 v)
  clear h K4 K5 M4 M5 M45 hs hr
  have hLl : (retL s keep L).length ≤ L.length := List.length_filter_le _ _
  go_wp2_with (first
    | (go_at_call 47; refine hdel.mono ?_; rintro e W6 ⟨rfl, hown, m6⟩; have HO6 : Hid (Book W6 p b m (retL s keep L)) := Lib.hid ⟨m6.at_ HB.out.hp (by simpa using HB.out.ne), hown, filter_ord HB.out.ord _, filter_rgs HB.out.rgs _⟩; have HM6 := Lib.hid ((HM.out.mono (fun _ hk => by cases hk)).trans m6 (fun k hk => .inl hk)); clear hown m6; have c6 := HO6.out.c0)
    | (at_len; refine wpList_len_own _ rfl _ 83 rfl 32 37 Try.underlying83 RV b m (BD L) rfl HB.out.hm ?_; rw [map_size])
    | (at_len; refine wpList_len_own _ rfl _ 83 rfl 32 37 Try.underlying83 RV b m (BD (retL s keep L)) rfl HO6.out.hm ?_; rw [map_size]))
  go_ret
  exact ⟨rfl, HO6.out, HM6.out⟩
/-! no book; awake -/
theorem set_lit {W : World} {p b m : Nat} {L : List S37} (h : Book W p b m L) (hm : m < maxLen) (c n sp sl ap al pt : Int) (d : Bool) (hk : inK c n) :
    Calls Try.prog 14 #[.pointer (some ⟨p, 0, none⟩), .agg #[.int .u32 c, .int .u32 n, .int .u64 sp, .int .u32 sl, .int .u64 ap, .int .u32 al, .int .u8 pt, .bool d]] W (SetP W p b m (setR L ⟨⟨c, n⟩, ⟨sp, sl⟩, ⟨ap, al⟩, pt, d⟩)) :=
  set_calls h hm ⟨⟨c, n⟩, ⟨sp, sl⟩, ⟨ap, al⟩, pt, d⟩ hk
theorem ret_lit {W : World} {p b m : Nat} {L : List S37} (h : Book W p b m L) (hm : m ≤ 1000000000) (sp sl : Int) :
    Calls Try.prog 18 #[.pointer (some ⟨p, 0, none⟩), .agg #[.int .u64 sp, .int .u32 sl], .slice none 0 0] W (RetP W p b m L (retL ⟨sp, sl⟩ [] L)) :=
  ret_calls h hm ⟨sp, sl⟩ none 0 [] (Kd.C_nil k32 W) (by simp) (by simp)
theorem done_lit {W : World} {p b m : Nat} {L : List S37} (h : Book W p b m L) (hm : m < maxLen) (c n : Int) (hk : inK c n) :
    Calls Try.prog 16 #[.pointer (some ⟨p, 0, none⟩), .agg #[.int .u32 c, .int .u32 n]] W (DoneP W p b m (doneR L c n)) := done_calls h hm hk
def aw1 : S37 := ⟨⟨1, 0⟩, ⟨0, 0⟩, ⟨9, 0⟩, 0, false⟩
def aw2 : S37 := ⟨⟨1, 0⟩, ⟨0, 0⟩, ⟨9, 0⟩, 0, true⟩
theorem aw_set1 : setR [] ⟨⟨1, 0⟩, ⟨0, 0⟩, ⟨9, 0⟩, 0, false⟩ = (0, [aw1]) := rfl
theorem aw_set2 : setR [aw1] ⟨⟨1, 0⟩, ⟨0, 0⟩, ⟨0, 0⟩, 0, false⟩ = (40, [aw1]) := rfl
theorem aw_ret1 : retL ⟨100, 0⟩ [] [aw1] = [aw1] := rfl
theorem aw_done : doneR [aw1] 1 0 = (true, [aw2]) := rfl
theorem aw_ret2 : retL ⟨100, 0⟩ [] [aw2] = [] := rfl
theorem inK10 : inK 1 0 := by unfold inK; omega
/-- awake's own book, and its name in a box -/
structure Aw (W V : World) (p b m g : Nat) (L : List S37) : Prop where
  hB : Book V p b m L
  hK : V.heap[g]? = some (.cells #[.int .u32 1, .int .u32 0] 32 (0, 0))
  hM : Mod W V []
  hb : W.heap.size ≤ b
theorem Aw.step {W V V' : World} {p b m m' g : Nat} {L L' : List S37} (h : Aw W V p b m g L) (hB : Book V' p b m' L') (m1 : Mod V V' [b]) : Aw W V' p b m' g L' := by
  have hne : g ≠ b := by
    intro e
    obtain ⟨es, clock, hb, _⟩ := h.hB.hm
    rw [← e, h.hK] at hb
    cases hb
  exact ⟨hB, m1.at_ h.hK (by simpa using hne), h.hM.trans m1 (fun k hk => by simp at hk; subst hk; exact .inr h.hb), h.hb⟩
theorem Aw.c0 {W V : World} {p b m g : Nat} {L : List S37} (h : Aw W V p b m g L) : V.cell? ⟨g, 0, none⟩ = some (.int .u32 1) := (blk_cell h.hK 0).trans rfl
theorem Aw.c1 {W V : World} {p b m g : Nat} {L : List S37} (h : Aw W V p b m g L) : V.cell? ⟨g, 1, none⟩ = some (.int .u32 0) := (blk_cell h.hK 1).trans rfl
set_option maxHeartbeats 4000000 in
set_option maxRecDepth 100000 in
theorem awake_calls (W : World) : Calls Try.prog 12 #[] W fun e W' => e = .returned (.bool true) ∧ Mod W W' [] := by
  go_enter Try.func12, Try.ntmps12
  go_upto_region 3 with (first
    | (go_at_call 13; refine (new_calls _).mono ?_; rintro e W1 ⟨p, b, rfl, hB, m1, hp, hb⟩; have H1 := Lib.hid (And.intro hB (And.intro m1 (And.intro hp hb))); clear hB m1 hp hb; skip))
  have H2 : Hid (Aw W (W1.alloc (.cells #[.int .u32 1, .int .u32 0] 32)) p b 0 W1.heap.size []) := Lib.hid ⟨H1.out.1.mod ((Mod.refl W1 []).alloc _) (by simp) (by simp), blk_new W1 _, H1.out.2.1.trans ((Mod.refl W1 []).alloc _) (fun _ hk => by cases hk), H1.out.2.2.2⟩
  clear H1
  generalize W1.alloc (.cells #[.int .u32 1, .int .u32 0] 32) = V2 at *
  generalize W1.heap.size = g at *
  have c0 := H2.out.c0
  have c1 := H2.out.c1
  go_wp2_with (first
    | (go_at_call 14; have K2 := H2; clear H2; have q := set_lit K2.out.hB (by unfold maxLen; omega) 1 0 0 0 9 0 0 false inK10; rw [aw_set1] at q; refine q.mono ?_; rintro e V3 ⟨he, hB, m1⟩; obtain rfl : e = .returned (.int .i64 0) := he; have H3 := Lib.hid (K2.out.step hB m1); have d0 := H3.out.c0; have d1 := H3.out.c1; clear K2 hB m1 q)
    | (go_at_call 14; have K3 := H3; clear H3; have q := set_lit K3.out.hB (by unfold maxLen; omega) 1 0 0 0 0 0 0 false inK10; rw [aw_set2] at q; refine q.mono ?_; rintro e V4 ⟨he, hB, m1⟩; obtain rfl : e = .returned (.int .i64 40) := he; have H4 := Lib.hid (K3.out.step hB m1); have e0 := H4.out.c0; have e1 := H4.out.c1; clear K3 hB m1 q)
    | (go_at_call 18; have K4 := H4; clear H4; have q := ret_lit K4.out.hB (by omega) 100 0; rw [aw_ret1] at q; refine q.mono ?_; rintro e V5 ⟨he, hB, m1⟩; obtain rfl : e = .returned (.int .i64 0) := he; have H5 := Lib.hid (K4.out.step hB m1); have f0 := H5.out.c0; have f1 := H5.out.c1; clear K4 hB m1 q)
    | (go_at_call 16; have K5 := H5; clear H5; have q := done_lit K5.out.hB (by unfold maxLen; omega) 1 0 inK10; rw [aw_done] at q; refine q.mono ?_; rintro e V6 ⟨he, hB, m1⟩; obtain rfl : e = .returned (.bool true) := he; have H6 := Lib.hid (K5.out.step hB m1); have g0 := H6.out.c0; have g1 := H6.out.c1; clear K5 hB m1 q)
    | (go_at_call 18; have K6 := H6; clear H6; have q := ret_lit K6.out.hB (by omega) 100 0; rw [aw_ret2] at q; refine q.mono ?_; rintro e V7 ⟨he, hB, m1⟩; obtain rfl : e = .returned (.int .i64 1) := he; have H7 := Lib.hid (K6.out.step hB m1); clear K6 hB m1 q))
  go_ret
  exact ⟨rfl, H7.out.hM⟩
end Go.Proofs.Ytdelbidaclddgaa.Ver
