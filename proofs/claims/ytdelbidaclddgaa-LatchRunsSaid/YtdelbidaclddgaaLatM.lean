/- The layer 'latch': LatM; a seat's own text, no law of its own. -/
import Derived.Test.YtdelbidaclddgaaLatL
import Derived.Deep.LoopGhost
import Derived.Deep.Cut
import Derived.Lib.Hide
import Derived.StillTailTactics
import Derived.Deep.QuietTactic
import Derived.BigQuiet
import Derived.Outline
import Derived.Deep.RegionWith
import Derived.Deep.RegionHeld3
import Derived.WalkLawsBesides
namespace Go.Proofs.Ytdelbidaclddgaa.Lat
open Go.RowKit Go.Proofs.YtdelbidaclddgaaW.PrintWords Go.Proofs.Ytdelbidaclddgaa.MLatchRuns Go.Proofs.YtdelbidaclddgaaW.PrintLast
set_option linter.unusedVariables false
set_option linter.unusedSimpArgs false
/-! Lay -/
structure Lz (W V : World) (q t m : Nat) (L : List S65) (fp : List Nat) (c n : Int) (st mn : S35) (A : Option Addr) (l : List S63) : Prop where
  hM : Mod W V []
  hT : Tab V t m L fp
  hP : V.heap[q]? = some (.cells #[.pointer (some ⟨t, 0, none⟩)] 59 (0, 0))
  hN : NB V (q + 1) ⟨c, n⟩
  hS : SB V (q + 2) st
  hS2 : SB V (q + 3) mn
  hR : Kd.C k63 V A l.length l
  hq : W.heap.size ≤ q
theorem Lz.mod {W V V' : World} {q t m : Nat} {L : List S65} {fp : List Nat} {c n : Int} {st mn : S35} {A : Option Addr} {l : List S63} (h : Lz W V q t m L fp c n st mn A l) (mm : Mod V V' []) : Lz W V' q t m L fp c n st mn A l :=
  ⟨h.hM.trans mm (fun _ hk => by cases hk), h.hT.mod0 mm, mm.at_ h.hP (by simp), h.hN.mod mm (by simp), h.hS.mod mm (by simp), h.hS2.mod mm (by simp), Kd.C_below h.hR mm.bel, h.hq⟩
theorem Lz.all {W V : World} {q t m : Nat} {L : List S65} {fp : List Nat} {c n : Int} {st mn : S35} {A : Option Addr} {l : List S63} (h : Lz W V q t m L fp c n st mn A l) : V.cell? ⟨q, 0, none⟩ = some (.pointer (some ⟨t, 0, none⟩)) ∧ V.cell? ⟨q + 1, 0, none⟩ = some (.int .u32 c) ∧ V.cell? ⟨q + 1, 1, none⟩ = some (.int .u32 n) ∧ V.cell? ⟨q + 2, 0, none⟩ = some (.int .u64 st.f0) ∧ V.cell? ⟨q + 2, 1, none⟩ = some (.int .u32 st.f1) ∧ V.cell? ⟨q + 3, 0, none⟩ = some (.int .u64 mn.f0) ∧ V.cell? ⟨q + 3, 1, none⟩ = some (.int .u32 mn.f1) := by
  obtain ⟨a, b⟩ := h.hN.all
  obtain ⟨s0, s1⟩ := h.hS.all
  obtain ⟨s2, s3⟩ := h.hS2.all
  exact ⟨(blk_cell h.hP 0).trans rfl, a, b, s0, s1, s2, s3⟩
theorem Lz.made {W : World} {t m : Nat} {L : List S65} {fp : List Nat} {A : Option Addr} {l : List S63} (h : Tab W t m L fp) (c n : Int) (st mn : S35) (hr : Kd.C k63 W A l.length l) : Lz W ((((W.alloc (.cells #[.pointer (some ⟨t, 0, none⟩)] 59)).alloc (.cells #[.int .u32 c, .int .u32 n] 32)).alloc (.cells #[.int .u64 st.f0, .int .u32 st.f1] 35)).alloc (.cells #[.int .u64 mn.f0, .int .u32 mn.f1] 35)) W.heap.size t m L fp c n st mn A l := by
  have m0 := (Mod.refl W []).alloc (.cells #[.pointer (some ⟨t, 0, none⟩)] 59)
  have m1 := (Mod.refl (W.alloc (.cells #[.pointer (some ⟨t, 0, none⟩)] 59)) []).alloc (.cells #[.int .u32 c, .int .u32 n] 32)
  have m2 := (Mod.refl ((W.alloc (.cells #[.pointer (some ⟨t, 0, none⟩)] 59)).alloc (.cells #[.int .u32 c, .int .u32 n] 32)) []).alloc (.cells #[.int .u64 st.f0, .int .u32 st.f1] 35)
  have m3 := (Mod.refl (((W.alloc (.cells #[.pointer (some ⟨t, 0, none⟩)] 59)).alloc (.cells #[.int .u32 c, .int .u32 n] 32)).alloc (.cells #[.int .u64 st.f0, .int .u32 st.f1] 35)) []).alloc (.cells #[.int .u64 mn.f0, .int .u32 mn.f1] 35)
  have s1 : (W.alloc (.cells #[.pointer (some ⟨t, 0, none⟩)] 59)).heap.size = W.heap.size + 1 := by simp
  have s2 : ((W.alloc (.cells #[.pointer (some ⟨t, 0, none⟩)] 59)).alloc (.cells #[.int .u32 c, .int .u32 n] 32)).heap.size = W.heap.size + 2 := by simp
  have s3 : (((W.alloc (.cells #[.pointer (some ⟨t, 0, none⟩)] 59)).alloc (.cells #[.int .u32 c, .int .u32 n] 32)).alloc (.cells #[.int .u64 st.f0, .int .u32 st.f1] 35)).heap.size = W.heap.size + 3 := by simp
  have b0 := blk_new W (.cells #[.pointer (some ⟨t, 0, none⟩)] 59)
  have b1 : NB ((W.alloc (.cells #[.pointer (some ⟨t, 0, none⟩)] 59)).alloc (.cells #[.int .u32 c, .int .u32 n] 32)) (W.heap.size + 1) ⟨c, n⟩ := s1 ▸ blk_new _ _
  have b2 : SB (((W.alloc (.cells #[.pointer (some ⟨t, 0, none⟩)] 59)).alloc (.cells #[.int .u32 c, .int .u32 n] 32)).alloc (.cells #[.int .u64 st.f0, .int .u32 st.f1] 35)) (W.heap.size + 2) st := s2 ▸ blk_new _ _
  have b3 : SB ((((W.alloc (.cells #[.pointer (some ⟨t, 0, none⟩)] 59)).alloc (.cells #[.int .u32 c, .int .u32 n] 32)).alloc (.cells #[.int .u64 st.f0, .int .u32 st.f1] 35)).alloc (.cells #[.int .u64 mn.f0, .int .u32 mn.f1] 35)) (W.heap.size + 3) mn := s3 ▸ blk_new _ _
  have m12 := m1.trans m2 (fun _ hk => by cases hk)
  have m23 := m2.trans m3 (fun _ hk => by cases hk)
  have m123 := m12.trans m3 (fun _ hk => by cases hk)
  have mm := m0.trans m123 (fun _ hk => by cases hk)
  exact ⟨mm, h.mod0 mm, m123.at_ b0 (by simp), b1.mod m23 (by simp), b2.mod m3 (by simp), b3, Kd.C_below hr mm.bel, Nat.le_refl _⟩
def layB (L : List S65) (c n : Int) (st mn : S35) (pr : ByteArray) (l : List S63) : Int := if (rightW l && rightB st.f0 st.f1 && rightB mn.f0 mn.f1 && keyB pr) = false then 1 else if (decide (byL L c n ≠ []) || anyBusy L l) = true then 40 else 0
def layL (L : List S65) (c n : Int) (st mn : S35) (pr : ByteArray) (l : List S63) : List S65 := if layB L c n st mn pr l = 0 then putJ c n st mn pr L l else L
def LayP (W : World) (t m : Nat) (fp : List Nat) (r : Int) (L' : List S65) (e : Ending) (W' : World) : Prop := e = .returned (.int .i64 r) ∧ (∃ fp', Tab W' t (m + 1) L' fp' ∧ ∀ y ∈ fp', y ∈ fp ∨ W.heap.size ≤ y) ∧ Mod W W' fp
theorem LayP.same {W W' : World} {q t m : Nat} {L : List S65} {fp : List Nat} {c n : Int} {st mn : S35} {A : Option Addr} {l : List S63} (h : Lz W W' q t m L fp c n st mn A l) (r : Int) : LayP W t m fp r L (.returned (.int .i64 r)) W' :=
  ⟨rfl, ⟨fp, h.hT.mono (by omega), fun _ hy => .inl hy⟩, h.hM.mono (fun _ hk => by cases hk)⟩
set_option maxHeartbeats 4000000 in
set_option maxRecDepth 100000 in
theorem lay_bad1 {W : World} {t m : Nat} {L : List S65} {fp : List Nat} (h : Tab W t m L fp) (c n : Int) (st mn : S35) (pr : ByteArray) (A : Option Addr) (cap : Nat) (l : List S63) (hr : Kd.C k63 W A l.length l) (hc : l.length ≤ cap) (hb1 : rightW l = false) :
    Calls Try.prog 26 #[.pointer (some ⟨t, 0, none⟩), .agg #[.int .u32 c, .int .u32 n], .agg #[.int .u64 st.f0, .int .u32 st.f1], .agg #[.int .u64 mn.f0, .int .u32 mn.f1], .string pr, .slice A l.length cap] W (LayP W t m fp 1 L) := by
  have H1 := Lib.hid (Lz.made h c n st mn hr)
  have HC := Lib.hid hc
  clear h hr hc
  go_enter Try.func26, Try.ntmps26
  go_upto_region 1 with fail
  generalize (((W.alloc _).alloc _).alloc _).alloc _ = W1 at *
  generalize hgq : W.heap.size = q at *
  obtain ⟨z0, z1, z2, z3, z4, z5, z6⟩ := H1.out.all
  go_wp2_with (first
    | (go_at_call 31; have K1 := H1; clear H1; refine Calls.mono (rightW_calls A cap l _ K1.out.hR HC.out hb1) ?_; rintro e V2 ⟨rfl, m2⟩; have H2 := Lib.hid (K1.out.mod m2); obtain ⟨z0, z1, z2, z3, z4, z5, z6⟩ := H2.out.all; clear K1 m2))
  go_ret
  exact LayP.same H2.out 1
set_option maxHeartbeats 4000000 in
set_option maxRecDepth 100000 in
theorem lay_bad2 {W : World} {t m : Nat} {L : List S65} {fp : List Nat} (h : Tab W t m L fp) (c n : Int) (st mn : S35) (pr : ByteArray) (A : Option Addr) (cap : Nat) (l : List S63) (hr : Kd.C k63 W A l.length l) (hc : l.length ≤ cap) (hb1 : rightW l = true) (hb2 : rightB st.f0 st.f1 = false) :
    Calls Try.prog 26 #[.pointer (some ⟨t, 0, none⟩), .agg #[.int .u32 c, .int .u32 n], .agg #[.int .u64 st.f0, .int .u32 st.f1], .agg #[.int .u64 mn.f0, .int .u32 mn.f1], .string pr, .slice A l.length cap] W (LayP W t m fp 1 L) := by
  have H1 := Lib.hid (Lz.made h c n st mn hr)
  have HC := Lib.hid hc
  clear h hr hc
  go_enter Try.func26, Try.ntmps26
  go_upto_region 1 with fail
  generalize (((W.alloc _).alloc _).alloc _).alloc _ = W1 at *
  generalize hgq : W.heap.size = q at *
  obtain ⟨z0, z1, z2, z3, z4, z5, z6⟩ := H1.out.all
  go_wp2_with (first
    | (go_at_call 31; have K1 := H1; clear H1; refine Calls.mono (rightW_calls A cap l _ K1.out.hR HC.out hb1) ?_; rintro e V2 ⟨rfl, m2⟩; have H2 := Lib.hid (K1.out.mod m2); obtain ⟨z0, z1, z2, z3, z4, z5, z6⟩ := H2.out.all; clear K1 m2)
    | (go_at_call 42; have K2 := H2; clear H2; refine Calls.mono (right_calls st.f0 st.f1 _) ?_; rintro e V3 ⟨rfl, m3⟩; rw [hb2]; have H3 := Lib.hid (K2.out.mod m3); obtain ⟨z0, z1, z2, z3, z4, z5, z6⟩ := H3.out.all; clear K2 m3))
  go_ret
  exact LayP.same H3.out 1
set_option maxHeartbeats 4000000 in
set_option maxRecDepth 100000 in
theorem lay_bad3 {W : World} {t m : Nat} {L : List S65} {fp : List Nat} (h : Tab W t m L fp) (c n : Int) (st mn : S35) (pr : ByteArray) (A : Option Addr) (cap : Nat) (l : List S63) (hr : Kd.C k63 W A l.length l) (hc : l.length ≤ cap) (hb1 : rightW l = true) (hb2 : rightB st.f0 st.f1 = true) (hb3 : rightB mn.f0 mn.f1 = false) :
    Calls Try.prog 26 #[.pointer (some ⟨t, 0, none⟩), .agg #[.int .u32 c, .int .u32 n], .agg #[.int .u64 st.f0, .int .u32 st.f1], .agg #[.int .u64 mn.f0, .int .u32 mn.f1], .string pr, .slice A l.length cap] W (LayP W t m fp 1 L) := by
  have H1 := Lib.hid (Lz.made h c n st mn hr)
  have HC := Lib.hid hc
  clear h hr hc
  go_enter Try.func26, Try.ntmps26
  go_upto_region 1 with fail
  generalize (((W.alloc _).alloc _).alloc _).alloc _ = W1 at *
  generalize hgq : W.heap.size = q at *
  obtain ⟨z0, z1, z2, z3, z4, z5, z6⟩ := H1.out.all
  go_wp2_with (first
    | (go_at_call 31; have K1 := H1; clear H1; refine Calls.mono (rightW_calls A cap l _ K1.out.hR HC.out hb1) ?_; rintro e V2 ⟨rfl, m2⟩; have H2 := Lib.hid (K1.out.mod m2); obtain ⟨z0, z1, z2, z3, z4, z5, z6⟩ := H2.out.all; clear K1 m2)
    | (go_at_call 42; have K2 := H2; clear H2; refine Calls.mono (right_calls st.f0 st.f1 _) ?_; rintro e V3 ⟨rfl, m3⟩; rw [hb2]; have H3 := Lib.hid (K2.out.mod m3); obtain ⟨z0, z1, z2, z3, z4, z5, z6⟩ := H3.out.all; clear K2 m3)
    | (go_at_call 42; have K3 := H3; clear H3; refine Calls.mono (right_calls mn.f0 mn.f1 _) ?_; rintro e V4 ⟨rfl, m4⟩; rw [hb3]; have H4 := Lib.hid (K3.out.mod m4); obtain ⟨z0, z1, z2, z3, z4, z5, z6⟩ := H4.out.all; clear K3 m4))
  go_ret
  exact LayP.same H4.out 1
set_option maxHeartbeats 4000000 in
set_option maxRecDepth 100000 in
theorem lay_bad4 {W : World} {t m : Nat} {L : List S65} {fp : List Nat} (h : Tab W t m L fp) (c n : Int) (st mn : S35) (pr : ByteArray) (A : Option Addr) (cap : Nat) (l : List S63) (hr : Kd.C k63 W A l.length l) (hc : l.length ≤ cap) (hb1 : rightW l = true) (hb2 : rightB st.f0 st.f1 = true) (hb3 : rightB mn.f0 mn.f1 = true) (hb4 : keyB pr = false) :
    Calls Try.prog 26 #[.pointer (some ⟨t, 0, none⟩), .agg #[.int .u32 c, .int .u32 n], .agg #[.int .u64 st.f0, .int .u32 st.f1], .agg #[.int .u64 mn.f0, .int .u32 mn.f1], .string pr, .slice A l.length cap] W (LayP W t m fp 1 L) := by
  have H1 := Lib.hid (Lz.made h c n st mn hr)
  have HC := Lib.hid hc
  clear h hr hc
  go_enter Try.func26, Try.ntmps26
  go_upto_region 1 with fail
  generalize (((W.alloc _).alloc _).alloc _).alloc _ = W1 at *
  generalize hgq : W.heap.size = q at *
  obtain ⟨z0, z1, z2, z3, z4, z5, z6⟩ := H1.out.all
  go_wp2_with (first
    | (go_at_call 31; have K1 := H1; clear H1; refine Calls.mono (rightW_calls A cap l _ K1.out.hR HC.out hb1) ?_; rintro e V2 ⟨rfl, m2⟩; have H2 := Lib.hid (K1.out.mod m2); obtain ⟨z0, z1, z2, z3, z4, z5, z6⟩ := H2.out.all; clear K1 m2)
    | (go_at_call 42; have K2 := H2; clear H2; refine Calls.mono (right_calls st.f0 st.f1 _) ?_; rintro e V3 ⟨rfl, m3⟩; rw [hb2]; have H3 := Lib.hid (K2.out.mod m3); obtain ⟨z0, z1, z2, z3, z4, z5, z6⟩ := H3.out.all; clear K2 m3)
    | (go_at_call 42; have K3 := H3; clear H3; refine Calls.mono (right_calls mn.f0 mn.f1 _) ?_; rintro e V4 ⟨rfl, m4⟩; rw [hb3]; have H4 := Lib.hid (K3.out.mod m4); obtain ⟨z0, z1, z2, z3, z4, z5, z6⟩ := H4.out.all; clear K3 m4)
    | (go_at_call 59; have K4 := H4; clear H4; refine Calls.mono (key_calls pr _) ?_; rintro e V5 ⟨rfl, m5⟩; rw [hb4]; have H5 := Lib.hid (K4.out.mod m5); obtain ⟨z0, z1, z2, z3, z4, z5, z6⟩ := H5.out.all; clear K4 m5))
  go_ret
  exact LayP.same H5.out 1
end Go.Proofs.Ytdelbidaclddgaa.Lat
