/- The layer 'latch': LatN; a seat's own text, no law of its own. -/
import Derived.Test.YtdelbidaclddgaaLatM
import Derived.Deep.LoopGhost
import Derived.Deep.Cut
import Derived.Lib.Hide
import Derived.StillTailTactics
import Derived.Deep.QuietTactic
import Derived.BigQuiet
import Derived.Outline
import Derived.Deep.RegionWith
import Derived.Deep.RegionHeld3
import Derived.WalkLawsBesides
namespace Go.Proofs.Ytdelbidaclddgaa.Lat
open Go.RowKit Go.Proofs.YtdelbidaclddgaaW.PrintWords Go.Proofs.Ytdelbidaclddgaa.MLatchRuns Go.Proofs.YtdelbidaclddgaaW.PrintLast
set_option linter.unusedVariables false
set_option linter.unusedSimpArgs false
theorem Tab.look {W : World} {t m : Nat} {L : List S65} {fp : List Nat} (h : Tab W t m L fp) {c n : Int} (hk : inK c n) : ∃ (hb : Nat) (o : Option Hd), (∀ W', Mod W W' [] → W'.cell? ⟨t, 0, none⟩ = some (.map (some hb)) ∧ (Instr.lookup 101 (.map (some hb)) (.agg #[.int .u32 c, .int .u32 n]) false).run Try.prog W' = .ok (ptQ o) W') ∧ (o = none ↔ byL L c n = []) := by
  obtain ⟨hb, kb, Hs, fk, h1, lk, rfl⟩ := h
  refine ⟨hb, findH c n Hs, fun W' mm => ⟨(h1.mod0 mm).c0, hlook (h1.mod0 mm).hm h1.rgs hk⟩, fun e => byL_none lk e, fun e => ?_⟩
  cases hf : findH c n Hs with
  | none => rfl
  | some hh =>
    obtain ⟨hin, rfl, rfl⟩ := findH_some hf
    have e2 := byL_some lk h1.ord hin
    rw [e] at e2
    exact absurd (List.map_eq_nil_iff.1 e2.symm) (lk.ws hh hin).2
set_option maxHeartbeats 4000000 in
set_option maxRecDepth 100000 in
theorem lay_held {W : World} {t m : Nat} {L : List S65} {fp : List Nat} (h : Tab W t m L fp) (c n : Int) (st mn : S35) (pr : ByteArray) (A : Option Addr) (cap : Nat) (l : List S63) (hr : Kd.C k63 W A l.length l) (hc : l.length ≤ cap) (hb1 : rightW l = true) (hb2 : rightB st.f0 st.f1 = true) (hb3 : rightB mn.f0 mn.f1 = true) (hb4 : keyB pr = true) (hk : inK c n) (hno : byL L c n ≠ []) :
    Calls Try.prog 26 #[.pointer (some ⟨t, 0, none⟩), .agg #[.int .u32 c, .int .u32 n], .agg #[.int .u64 st.f0, .int .u32 st.f1], .agg #[.int .u64 mn.f0, .int .u32 mn.f1], .string pr, .slice A l.length cap] W (LayP W t m fp 40 L) := by
  have H1 := Lib.hid (Lz.made h c n st mn hr)
  have HC := Lib.hid hc
  clear h hr hc
  go_enter Try.func26, Try.ntmps26
  go_upto_region 1 with fail
  generalize (((W.alloc _).alloc _).alloc _).alloc _ = W1 at *
  generalize hgq : W.heap.size = q at *
  obtain ⟨z0, z1, z2, z3, z4, z5, z6⟩ := H1.out.all
  go_upto_region 4 with (first
    | (go_at_call 31; have K1 := H1; clear H1; refine Calls.mono (rightW_calls A cap l _ K1.out.hR HC.out hb1) ?_; rintro e V2 ⟨rfl, m2⟩; have H2 := Lib.hid (K1.out.mod m2); obtain ⟨z0, z1, z2, z3, z4, z5, z6⟩ := H2.out.all; clear K1 m2)
    | (go_at_call 42; have K2 := H2; clear H2; refine Calls.mono (right_calls st.f0 st.f1 _) ?_; rintro e V3 ⟨rfl, m3⟩; rw [hb2]; have H3 := Lib.hid (K2.out.mod m3); obtain ⟨z0, z1, z2, z3, z4, z5, z6⟩ := H3.out.all; clear K2 m3)
    | (go_at_call 42; have K3 := H3; clear H3; refine Calls.mono (right_calls mn.f0 mn.f1 _) ?_; rintro e V4 ⟨rfl, m4⟩; rw [hb3]; have H4 := Lib.hid (K3.out.mod m4); obtain ⟨z0, z1, z2, z3, z4, z5, z6⟩ := H4.out.all; clear K3 m4)
    | (go_at_call 59; have K4 := H4; clear H4; refine Calls.mono (key_calls pr _) ?_; rintro e V5 ⟨rfl, m5⟩; rw [hb4]; have H5 := Lib.hid (K4.out.mod m5); obtain ⟨z0, z1, z2, z3, z4, z5, z6⟩ := H5.out.all; clear K4 m5))
  obtain ⟨hb, o, hlk, hon⟩ := H5.out.hT.look hk
  cases o with
  | none => exact absurd (hon.1 rfl) hno
  | some hh =>
    have t0 := (hlk V5 (Mod.refl _ _)).1
    have hlr : ∀ n', (Instr.lookup 101 (.map (some hb)) (.agg #[.int .u32 c, .int .u32 n]) false).run Try.prog (V5.drewN n') = .ok (.pointer (some ⟨hh.q, 0, none⟩)) (V5.drewN n') := fun n' => (hlk _ ((Mod.refl _ _).drewN n')).2
    clear hlk hon hno
    go_quiet (fail)
    go_wp2
    go_ret
    exact LayP.same (H5.out.mod ((Mod.refl _ _).drewN _)) 40
set_option maxHeartbeats 4000000 in
set_option maxRecDepth 100000 in
theorem lay_busy {W : World} {t m : Nat} {L : List S65} {fp : List Nat} (h : Tab W t m L fp) (c n : Int) (st mn : S35) (pr : ByteArray) (A : Option Addr) (cap : Nat) (l : List S63) (hr : Kd.C k63 W A l.length l) (hc : l.length ≤ cap) (hb1 : rightW l = true) (hb2 : rightB st.f0 st.f1 = true) (hb3 : rightB mn.f0 mn.f1 = true) (hb4 : keyB pr = true) (hk : inK c n) (hno : byL L c n = []) (hl : l.length ≤ 1000000) (hbu : anyBusy L l = true) :
    Calls Try.prog 26 #[.pointer (some ⟨t, 0, none⟩), .agg #[.int .u32 c, .int .u32 n], .agg #[.int .u64 st.f0, .int .u32 st.f1], .agg #[.int .u64 mn.f0, .int .u32 mn.f1], .string pr, .slice A l.length cap] W (LayP W t m fp 40 L) := by
  have H1 := Lib.hid (Lz.made h c n st mn hr)
  have HC := Lib.hid hc
  clear h hr hc
  go_enter Try.func26, Try.ntmps26
  go_upto_region 1 with fail
  generalize (((W.alloc _).alloc _).alloc _).alloc _ = W1 at *
  generalize hgq : W.heap.size = q at *
  obtain ⟨z0, z1, z2, z3, z4, z5, z6⟩ := H1.out.all
  go_upto_region 4 with (first
    | (go_at_call 31; have K1 := H1; clear H1; refine Calls.mono (rightW_calls A cap l _ K1.out.hR HC.out hb1) ?_; rintro e V2 ⟨rfl, m2⟩; have H2 := Lib.hid (K1.out.mod m2); obtain ⟨z0, z1, z2, z3, z4, z5, z6⟩ := H2.out.all; clear K1 m2)
    | (go_at_call 42; have K2 := H2; clear H2; refine Calls.mono (right_calls st.f0 st.f1 _) ?_; rintro e V3 ⟨rfl, m3⟩; rw [hb2]; have H3 := Lib.hid (K2.out.mod m3); obtain ⟨z0, z1, z2, z3, z4, z5, z6⟩ := H3.out.all; clear K2 m3)
    | (go_at_call 42; have K3 := H3; clear H3; refine Calls.mono (right_calls mn.f0 mn.f1 _) ?_; rintro e V4 ⟨rfl, m4⟩; rw [hb3]; have H4 := Lib.hid (K3.out.mod m4); obtain ⟨z0, z1, z2, z3, z4, z5, z6⟩ := H4.out.all; clear K3 m4)
    | (go_at_call 59; have K4 := H4; clear H4; refine Calls.mono (key_calls pr _) ?_; rintro e V5 ⟨rfl, m5⟩; rw [hb4]; have H5 := Lib.hid (K4.out.mod m5); obtain ⟨z0, z1, z2, z3, z4, z5, z6⟩ := H5.out.all; clear K4 m5))
  obtain ⟨hb, o, hlk, hon⟩ := H5.out.hT.look hk
  obtain rfl := hon.2 hno
  have HS : Hid (∀ W', Mod V5 W' [] → W'.cell? ⟨q, 0, none⟩ = some (.pointer (some ⟨t, 0, none⟩)) ∧ W'.cell? ⟨q + 1, 0, none⟩ = some (.int .u32 c) ∧ W'.cell? ⟨q + 1, 1, none⟩ = some (.int .u32 n) ∧ W'.cell? ⟨t, 0, none⟩ = some (.map (some hb)) ∧ (Instr.lookup 101 (.map (some hb)) (.agg #[.int .u32 c, .int .u32 n]) false).run Try.prog W' = .ok (.pointer none) W') := Lib.hid fun W' mm => by
    obtain ⟨a, b, c, _⟩ := (H5.out.mod mm).all
    exact ⟨a, b, c, hlk W' mm⟩
  clear z0 z1 z2 z3 z4 z5 z6 hlk hon hno
  go_region_held3 (fun W' => W'.cell? ⟨q, 0, none⟩ = some (.pointer (some ⟨t, 0, none⟩)) ∧ W'.cell? ⟨q + 1, 0, none⟩ = some (.int .u32 c) ∧ W'.cell? ⟨q + 1, 1, none⟩ = some (.int .u32 n) ∧ W'.cell? ⟨t, 0, none⟩ = some (.map (some hb)) ∧ (Instr.lookup 101 (.map (some hb)) (.agg #[.int .u32 c, .int .u32 n]) false).run Try.prog W' = .ok (.pointer none) W')
    (first | exact HS.out _ (by (with_reducible repeat (first | exact N6.out | exact Mod.refl _ _ | refine Mod.drew ?_)))) (first
    | (go_at_call 62
       (
         have T5 := H5.out.mod (Mod.refl V5 []).drew
         refine Calls.mono (contains_calls T5.hT T5.hP A cap l T5.hR HC.out hl hbu) ?_
         rintro e V6 ⟨rfl, m6⟩
         have N6 : Hid (Mod V5 V6 []) := Lib.hid ((Mod.refl V5 []).drew.trans m6 (fun _ hk => by cases hk))
         clear m6 T5)))
  all_goals
    go_wp2
    go_ret
    exact LayP.same (H5.out.mod N6.out) 40
end Go.Proofs.Ytdelbidaclddgaa.Lat
