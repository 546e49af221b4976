/- The layer 'latch': LatO; a seat's own text, no law of its own. -/
import Derived.Test.YtdelbidaclddgaaLatN
import Derived.Deep.LoopGhost
import Derived.Deep.Cut
import Derived.Lib.Hide
import Derived.StillTailTactics
import Derived.Deep.QuietTactic
import Derived.BigQuiet
import Derived.Outline
import Derived.Deep.RegionWith
import Derived.Deep.RegionHeld3
import Derived.WalkLawsBesides
namespace Go.Proofs.Ytdelbidaclddgaa.Lat
open Go.RowKit Go.Proofs.YtdelbidaclddgaaW.PrintWords Go.Proofs.Ytdelbidaclddgaa.MLatchRuns Go.Proofs.YtdelbidaclddgaaW.PrintLast
set_option linter.unusedVariables false
set_option linter.unusedSimpArgs false
theorem C_mod63 {W W' : World} {fp : List Nat} {A : Option Addr} {n : Nat} {l : List S63} (h : Kd.C k63 W A n l) (m : Mod W W' fp) (hA : ∀ ad, A = some ad → ad.block ∉ fp) : Kd.C k63 W' A n l := ⟨h.1, h.2.1, fun hn => by
  obtain ⟨ad, e, hc⟩ := h.2.2 hn
  refine ⟨ad, e, fun j p hj => ?_⟩
  obtain ⟨c, h1, h2, h3⟩ := hc j p hj
  refine ⟨c, h1, by have e2 := k63_open h2; subst e2; exact k63_mk _ _, fun i u hu => m.cellA (h3 i u hu) ?_⟩
  have hb : ∀ k, (ad.add k).block = ad.block := fun k => by unfold Addr.add; split <;> rfl
  rw [hb]
  exact hA ad e⟩
set_option maxHeartbeats 4000000 in
set_option maxRecDepth 100000 in
theorem lay_ok {W : World} {t m : Nat} {L : List S65} {fp : List Nat} (h : Tab W t m L fp) (c n : Int) (st mn : S35) (pr : ByteArray) (A : Option Addr) (cap : Nat) (l : List S63) (hr : Kd.C k63 W A l.length l) (hc : l.length ≤ cap) (hb1 : rightW l = true) (hb2 : rightB st.f0 st.f1 = true) (hb3 : rightB mn.f0 mn.f1 = true) (hb4 : keyB pr = true) (hk : inK c n) (hno : byL L c n = []) (hl : l.length ≤ 1000000) (hbu : anyBusy L l = false) (hA : ∀ ad, A = some ad → ad.block ∉ fp) (hmx : m ≤ 1000000) (hLl : L.length ≤ 1000000) :
    Calls Try.prog 26 #[.pointer (some ⟨t, 0, none⟩), .agg #[.int .u32 c, .int .u32 n], .agg #[.int .u64 st.f0, .int .u32 st.f1], .agg #[.int .u64 mn.f0, .int .u32 mn.f1], .string pr, .slice A l.length cap] W (LayP W t m fp 0 (putJ c n st mn pr L l)) := by
  have H1 := Lib.hid (Lz.made h c n st mn hr)
  have HLt := Lib.hid (And.intro h.lt hr)
  have HC := Lib.hid hc
  clear h hr hc
  go_enter Try.func26, Try.ntmps26
  go_upto_region 1 with fail
  generalize (((W.alloc _).alloc _).alloc _).alloc _ = W1 at *
  generalize hgq : W.heap.size = q at *
  obtain ⟨z0, z1, z2, z3, z4, z5, z6⟩ := H1.out.all
  go_upto_region 4 with (first
    | (go_at_call 31; have K1 := H1; clear H1; refine Calls.mono (rightW_calls A cap l _ K1.out.hR HC.out hb1) ?_; rintro e V2 ⟨rfl, m2⟩; have H2 := Lib.hid (K1.out.mod m2); obtain ⟨z0, z1, z2, z3, z4, z5, z6⟩ := H2.out.all; clear K1 m2)
    | (go_at_call 42; have K2 := H2; clear H2; refine Calls.mono (right_calls st.f0 st.f1 _) ?_; rintro e V3 ⟨rfl, m3⟩; rw [hb2]; have H3 := Lib.hid (K2.out.mod m3); obtain ⟨z0, z1, z2, z3, z4, z5, z6⟩ := H3.out.all; clear K2 m3)
    | (go_at_call 42; have K3 := H3; clear H3; refine Calls.mono (right_calls mn.f0 mn.f1 _) ?_; rintro e V4 ⟨rfl, m4⟩; rw [hb3]; have H4 := Lib.hid (K3.out.mod m4); obtain ⟨z0, z1, z2, z3, z4, z5, z6⟩ := H4.out.all; clear K3 m4)
    | (go_at_call 59; have K4 := H4; clear H4; refine Calls.mono (key_calls pr _) ?_; rintro e V5 ⟨rfl, m5⟩; rw [hb4]; have H5 := Lib.hid (K4.out.mod m5); obtain ⟨z0, z1, z2, z3, z4, z5, z6⟩ := H5.out.all; clear K4 m5))
  obtain ⟨hb, o, hlk, hon⟩ := H5.out.hT.look hk
  obtain rfl := hon.2 hno
  have hno' := hno
  have HS : Hid (∀ W', Mod V5 W' [] → W'.cell? ⟨q, 0, none⟩ = some (.pointer (some ⟨t, 0, none⟩)) ∧ W'.cell? ⟨q + 1, 0, none⟩ = some (.int .u32 c) ∧ W'.cell? ⟨q + 1, 1, none⟩ = some (.int .u32 n) ∧ W'.cell? ⟨t, 0, none⟩ = some (.map (some hb)) ∧ (Instr.lookup 101 (.map (some hb)) (.agg #[.int .u32 c, .int .u32 n]) false).run Try.prog W' = .ok (.pointer none) W') := Lib.hid fun W' mm => by
    obtain ⟨a, b, c, _⟩ := (H5.out.mod mm).all
    exact ⟨a, b, c, hlk W' mm⟩
  clear z0 z1 z2 z3 z4 z5 z6 hlk hon hno
  go_region_held3 (fun W' => W'.cell? ⟨q, 0, none⟩ = some (.pointer (some ⟨t, 0, none⟩)) ∧ W'.cell? ⟨q + 1, 0, none⟩ = some (.int .u32 c) ∧ W'.cell? ⟨q + 1, 1, none⟩ = some (.int .u32 n) ∧ W'.cell? ⟨t, 0, none⟩ = some (.map (some hb)) ∧ (Instr.lookup 101 (.map (some hb)) (.agg #[.int .u32 c, .int .u32 n]) false).run Try.prog W' = .ok (.pointer none) W')
    (first | exact HS.out _ (by (with_reducible repeat (first | exact N6.out | exact Mod.refl _ _ | refine Mod.drew ?_)))) (first
    | (go_at_call 62
       (
         have T5 := H5.out.mod (Mod.refl V5 []).drew
         refine Calls.mono (contains_calls T5.hT T5.hP A cap l T5.hR HC.out hl hbu) ?_
         rintro e V6 ⟨rfl, m6⟩
         have N6 : Hid (Mod V5 V6 []) := Lib.hid ((Mod.refl V5 []).drew.trans m6 (fun _ hk => by cases hk))
         clear m6 T5)))
  all_goals
    clear HS
    have H6 := Lib.hid (H5.out.mod N6.out)
    clear H5 N6
    go_upto_region 6 with fail
    have HS6 : Hid (∀ W', Mod V6 W' [] → W'.cell? ⟨q + 2, 0, none⟩ = some (.int .u64 st.f0) ∧ W'.cell? ⟨q + 2, 1, none⟩ = some (.int .u32 st.f1) ∧ W'.cell? ⟨q + 3, 0, none⟩ = some (.int .u64 mn.f0) ∧ W'.cell? ⟨q + 3, 1, none⟩ = some (.int .u32 mn.f1)) := Lib.hid fun W' mm => by
      obtain ⟨_, _, _, s0, s1, s2, s3⟩ := (H6.out.mod mm).all
      exact ⟨s0, s1, s2, s3⟩
    have hn0 : 0 < l.length := by
      have e := hb1
      unfold rightW at e
      simp only [Bool.and_eq_true, decide_eq_true_eq] at e
      exact e.1.1.1
    have hnd : (l.map keyD).Nodup := by
      have e := hb1
      unfold rightW at e
      simp only [Bool.and_eq_true, decide_eq_true_eq] at e
      exact e.2
    go_region_held3 (fun W' => W'.cell? ⟨q + 2, 0, none⟩ = some (.int .u64 st.f0) ∧ W'.cell? ⟨q + 2, 1, none⟩ = some (.int .u32 st.f1) ∧ W'.cell? ⟨q + 3, 0, none⟩ = some (.int .u64 mn.f0) ∧ W'.cell? ⟨q + 3, 1, none⟩ = some (.int .u32 mn.f1))
      (first | exact HS6.out _ (by (with_reducible repeat (first | exact N7.out | exact Mod.refl _ _ | refine Mod.alloc ?_ _ | refine Mod.drew ?_)))) (first
      | (go_at_call 63
         (
           have T6 := H6.out.mod (Mod.refl V6 []).drew
           refine Calls.mono (clone_calls A cap l V6.drew T6.hR HC.out hl hn0) ?_
           rintro e V7 ⟨A7, k7, rfl, hR7, hnew7, m7⟩
           have N7 : Hid (Mod V6 V7 []) := Lib.hid ((Mod.refl V6 []).drew.trans m7 (fun _ hk => by cases hk))
           have HR7 := Lib.hid (And.intro hR7 hnew7)
           clear m7 T6 hR7 hnew7)))
    all_goals
      clear HS6
      have m8 : Mod V7 (V7.alloc (.cells #[.int .u64 st.f0, .int .u32 st.f1, .int .u64 mn.f0, .int .u32 mn.f1, .string pr, .slice A7 l.length k7] 116)) [] := (Mod.refl V7 []).alloc _
      have b8 := blk_new V7 (.cells #[.int .u64 st.f0, .int .u32 st.f1, .int .u64 mn.f0, .int .u32 mn.f1, .string pr, .slice A7 l.length k7] 116)
      have H8 := Lib.hid (And.intro (H6.out.mod (N7.out.trans m8 (fun _ hk => by cases hk))) (And.intro b8 (HR7.out.1.mod plain63 m8 (fun _ _ => by simp))))
      have HX7 : Hid ((∀ y ∈ ownList (.slice A7 l.length k7), V6.heap.size ≤ y ∧ y < V7.heap.size) ∧ V6.heap.size ≤ V7.heap.size ∧ Mod V6 (V7.alloc (.cells #[.int .u64 st.f0, .int .u32 st.f1, .int .u64 mn.f0, .int .u32 mn.f1, .string pr, .slice A7 l.length k7] 116)) []) := Lib.hid ⟨fun y hy => ⟨HR7.out.2 y hy, HR7.out.1.lt y hy⟩, N7.out.size, N7.out.trans m8 (fun _ hk => by cases hk)⟩
      clear m8 b8 HR7 N7
      go_upto_region 7 with fail
      generalize V7.alloc _ = V8 at *
      generalize V7.heap.size = q7 at *
      have c5 : V8.cell? ⟨q7, 5, none⟩ = some (.slice A7 l.length k7) := (blk_cell H8.out.2.1 5).trans rfl
      go_wp2_with fail
      refine (sortRow_calls H8.out.2.2 hn0 hl).mono ?_
      rintro e V9 ⟨rfl, ws, hperm, hsorted, hrow9, m9⟩
      have hlen := hperm.length_eq
      have hq7n : q7 ∉ ownList (.slice A7 l.length k7) := fun hm => by have := (HX7.out.1 q7 hm).2; omega
      have b9 : HB V9 ⟨c, n, q7, st, mn, pr, A7, k7, ws⟩ := ⟨by
        show V9.heap[q7]? = some (.cells #[.int .u64 st.f0, .int .u32 st.f1, .int .u64 mn.f0, .int .u32 mn.f1, .string pr, .slice A7 ws.length k7] 116 (0, 0))
        rw [hlen]
        exact m9.at_ H8.out.2.1 hq7n, hrow9, by
        show q7 ∉ ownList (.slice A7 ws.length k7)
        rw [hlen]; exact hq7n⟩
      have hq6 : q + 3 < V6.heap.size := blk_lt H6.out.hS2
      obtain ⟨hb', kb, Hs, fk, h1, lk, hfp⟩ := H8.out.1.hT
      have hltq : ∀ x ∈ fp, x < q := fun x hx => HLt.out.1 x hx
      have hown : ∀ y ∈ ownList (.slice A7 l.length k7), q + 3 < y := fun y hy => by have := (HX7.out.1 y hy).1; omega
      have hblk : ∀ x ∈ blocks t hb' fk Hs, x < q := fun x hx => hltq x (hfp ▸ hx)
      have T9 := h1.mod m9 (fun x hx hm => by have := hown x hm; have := hblk x hx; omega)
      have P9 := m9.at_ H8.out.1.hP (fun hm => by have := hown _ hm; omega)
      have N9 : NB V9 (q + 1) ⟨c, n⟩ := H8.out.1.hN.mod m9 (fun hm => by have := hown _ hm; omega)
      have hq7 : q + 3 < q7 := by have := HX7.out.2.1; omega
      have hfn : findH c n Hs = none := by
        cases e : findH c n Hs with
        | none => rfl
        | some hh =>
          obtain ⟨hin, e1, e2⟩ := findH_some e
          have e3 := byL_some lk h1.ord hin
          rw [e1, e2, hno'] at e3
          exact absurd (List.map_eq_nil_iff.1 e3.symm) (lk.ws hh hin).2
      have hfresh : ∀ z ∈ (⟨c, n, q7, st, mn, pr, A7, k7, ws⟩ : Hd).bl, z ∉ blocks t hb' fk Hs := fun z hz hm => by
        have h2 := hblk z hm
        rcases List.mem_cons.1 hz with e | e
        · have e' : z = q7 := e
          omega
        · have e' : z ∈ ownList (.slice A7 ws.length k7) := e
          rw [hlen] at e'
          have := hown z e'
          omega
      obtain ⟨V10, hrun, hown10, m10⟩ := hstore (W := V9.drew) (owns_mod T9.hm (Mod.refl V9 []).drew (by simp)) T9.ord T9.rgs (by unfold maxLen; omega) ⟨c, n, q7, st, mn, pr, A7, k7, ws⟩ hk
      have T10 := (T9.mod0 (Mod.refl V9 []).drew).add (h' := ⟨c, n, q7, st, mn, pr, A7, k7, ws⟩) hk (b9.mod (fp := []) (Mod.refl V9 []).drew (fun _ _ => by simp)) hfresh hown10 m10
      have N10 : Hid (Mod V9 V10 [hb']) := Lib.hid ((Mod.refl V9 [hb']).drew.trans m10 (fun z hz => .inl hz))
      have hbq : hb' < q := hblk hb' (in_blocks.2 (.inr (.inl rfl)))
      have HS8 : Hid (∀ W', Mod V9 W' [hb'] → W'.cell? ⟨q, 0, none⟩ = some (.pointer (some ⟨t, 0, none⟩)) ∧ W'.cell? ⟨q + 1, 0, none⟩ = some (.int .u32 c) ∧ W'.cell? ⟨q + 1, 1, none⟩ = some (.int .u32 n) ∧ W'.cell? ⟨t, 0, none⟩ = some (.map (some hb'))) := Lib.hid fun W' mm => by
        obtain ⟨a, b⟩ := (N9.mod mm (by simp; omega)).all
        exact ⟨(blk_cell (mm.at_ P9 (by simp; omega)) 0).trans rfl, a, b, mm.cellN T9.c0 (by simpa using T9.ne)⟩
      have HT10 := Lib.hid (And.intro T10 (And.intro lk (And.intro hfp (And.intro P9 (And.intro N9 hfn)))))
      have HSZ : Hid (q + 3 < V10.heap.size ∧ hb' < q ∧ (∀ x ∈ fk, x < q) ∧ Mod W V10 fp) := Lib.hid ⟨by have := N10.out.size; have := m9.size; have := HX7.out.2.2.size; omega, hbq, fun x hx => hblk x (in_blocks.2 (.inr (.inr (.inl hx)))), by
        have w1 : Mod W V8 fp := H8.out.1.hM.mono (fun _ hk => by cases hk)
        have w2 : Mod W V9 fp := w1.trans m9 (fun y hy => .inr (by have := hown y hy; omega))
        exact w2.trans N10.out (fun y hy => .inl (by simp at hy; subst hy; rw [hfp]; exact in_blocks.2 (.inr (.inl rfl))))⟩
      have HPW := Lib.hid (And.intro hperm hsorted)
      have HQ7 : Hid (W.heap.size ≤ q7 ∧ ∀ y ∈ ownList (.slice A7 ws.length k7), W.heap.size ≤ y) := Lib.hid ⟨by omega, fun y hy => by rw [hlen] at hy; have := hown y hy; omega⟩
      have HPN : Hid (V10.heap[q]? = some (.cells #[.pointer (some ⟨t, 0, none⟩)] 59 (0, 0)) ∧ NB V10 (q + 1) ⟨c, n⟩) := Lib.hid ⟨N10.out.at_ P9 (by simp; omega), N9.mod N10.out (by simp; omega)⟩
      have HC10 : Hid (Kd.C k63 V10 A l.length l) := Lib.hid (C_mod63 HLt.out.2 HSZ.out.2.2.2 hA)
      have HA : Hid (∀ ad, A = some ad → ad.block ∉ fk) := Lib.hid fun ad e hm => hA ad e (by rw [hfp]; exact in_blocks.2 (.inr (.inr (.inl hm))))
      clear hq6 h1 lk hfp hltq hown hblk T9 P9 N9 hq7 hfn hfresh hown10 m10 T10 hbq hrow9 m9 b9 c5 hperm hsorted hq7n H8 HX7 H6
      go_upto_region 8 with fail
      go_region_held3 (fun W' => W'.cell? ⟨q, 0, none⟩ = some (.pointer (some ⟨t, 0, none⟩)) ∧ W'.cell? ⟨q + 1, 0, none⟩ = some (.int .u32 c) ∧ W'.cell? ⟨q + 1, 1, none⟩ = some (.int .u32 n) ∧ W'.cell? ⟨t, 0, none⟩ = some (.map (some hb')))
        (first | exact HS8.out _ (by (with_reducible repeat (first | exact N10.out | exact Mod.refl _ _ | refine Mod.drew ?_)))) (fail)
      all_goals
        clear HS8 N10 hrun
        have HX : Hid (∀ (j : Nat) (hj : j < l.length), lset ((putJ c n st mn pr L (l.take j)).map pairOf) l[j].f0 ⟨⟨c, n⟩, l[j]⟩ = (putJ c n st mn pr L (l.take (j + 1))).map pairOf) := Lib.hid fun j hj => by
          rw [putJ_next c n st mn pr L l hj]
          exact iput_pairs (mkI c n st mn pr l[j]) (putJ_key c n st mn pr hbu hnd hj)
        have HZ : Hid (∀ j, ((putJ c n st mn pr L (l.take j)).map pairOf).length ≤ 1000000000) := Lib.hid fun j => by
          have e := (putJ_perm c n st mn pr (l.take j) L).length_eq
          rw [List.length_append, List.length_map] at e
          have : (l.take j).length ≤ l.length := by rw [List.length_take]; omega
          rw [List.length_map]
          omega
        go_wp2_with fail
        go_loopg [72] l.length (fun k i wr => ∃ (j : Nat) (fk' : List Nat), j ≤ l.length ∧ k = l.length - j ∧ i = .int .i64 j ∧ TB wr t hb' (m + 1) kb (vset Hd.c Hd.n ⟨c, n, q7, st, mn, pr, A7, k7, ws⟩ Hs) ((putJ c n st mn pr L (l.take j)).map pairOf) fk' ∧ (∀ y ∈ fk', y ∈ fk ∨ V10.heap.size ≤ y) ∧ Mod V10 wr fk)
        case atStart => exact ⟨0, fk, Nat.zero_le _, rfl, rfl, HT10.out.1, fun _ hy => .inl hy, Mod.refl _ _⟩
        case round =>
          obtain ⟨j, fk', hj, rfl, rfl, hT, hsub, hM⟩ := hrel
          have hnotin : ∀ x, x ≤ q + 3 → x ∉ fk → x ∉ fk' := fun x hx h1 hm => by
            rcases hsub x hm with e | e
            · exact h1 e
            · have := HSZ.out.1; omega
          by_cases hjl : j < l.length
          · have hjz : (j : Int) < (l.length : Int) := by omega
            have hw : IntKind.i64.wrap ((j : Int) + 1) = ((j + 1 : Nat) : Int) := by rw [i64w (by omega) (by omega)]; omega
            have hx := HX.out j hjl
            have hz := HZ.out j
            obtain ⟨ad, rfl, a0, a1, a2⟩ := wr_cells (C_mod63 HC10.out hM HA.out) j hjl
            have m6 : Mod wr (wr.alloc (.cells #[.string l[j].f0, .string l[j].f1, .bool l[j].f2] 63)) [] := (Mod.refl wr []).alloc _
            have x6 : WB (wr.alloc (.cells #[.string l[j].f0, .string l[j].f1, .bool l[j].f2] 63)) wr.heap.size l[j] := blk_new wr _
            have hqk : ∀ x, q ≤ x → x ∉ fk := fun x hx hm => by have := HSZ.out.2.2.1 x hm; omega
            have hp := hM.at_ HPN.out.1 (hqk q (Nat.le_refl _))
            have hn := HPN.out.2.mod hM (hqk (q + 1) (by omega))
            have H11 := Lib.hid (And.intro (hT.mod0 m6) (And.intro x6 (And.intro (hM.trans m6 (fun _ hk => by cases hk)) (And.intro hx (And.intro (m6.at_ hp (by simp)) (hn.mod m6 (by simp)))))))
            have HJ : Hid (q ∉ fk' ∧ q + 1 ∉ fk' ∧ wr.heap.size ∉ fk' ∧ t ∉ fk' ∧ (∀ y ∈ fk', y ∈ fk ∨ V10.heap.size ≤ y)) := Lib.hid ⟨hnotin q (by omega) (hqk q (Nat.le_refl _)), hnotin (q + 1) (by omega) (hqk _ (by omega)), fun hm => by have := hT.hk.lt _ hm; omega, hT.a1, hsub⟩
            clear hT hsub hM hx m6 x6 hqk hp hn hnotin
            generalize l[j] = y at *
            go_upto_region 12 with fail
            clear a0 a1 a2
            generalize wr.alloc _ = W11 at *
            generalize wr.heap.size = q11 at *
            have HS12 : Hid (∀ W', Mod W11 W' fk' → W'.cell? ⟨q, 0, none⟩ = some (.pointer (some ⟨t, 0, none⟩)) ∧ W'.cell? ⟨q + 1, 0, none⟩ = some (.int .u32 c) ∧ W'.cell? ⟨q + 1, 1, none⟩ = some (.int .u32 n) ∧ W'.cell? ⟨t, 1, none⟩ = some (.pointer (some ⟨kb, 0, none⟩)) ∧ W'.cell? ⟨q11, 0, none⟩ = some (.string y.f0) ∧ W'.cell? ⟨q11, 1, none⟩ = some (.string y.f1) ∧ W'.cell? ⟨q11, 2, none⟩ = some (.bool y.f2)) := Lib.hid fun W' mm => by
              obtain ⟨b0, b1⟩ := (H11.out.2.2.2.2.2.mod mm HJ.out.2.1).all
              obtain ⟨d0, d1, d2⟩ := (H11.out.2.1.mod mm HJ.out.2.2.1).all
              exact ⟨(blk_cell (mm.at_ H11.out.2.2.2.2.1 HJ.out.1) 0).trans rfl, b0, b1, mm.cellN H11.out.1.c1 HJ.out.2.2.2.1, d0, d1, d2⟩
            go_region_held3 (fun W' => W'.cell? ⟨q, 0, none⟩ = some (.pointer (some ⟨t, 0, none⟩)) ∧ W'.cell? ⟨q + 1, 0, none⟩ = some (.int .u32 c) ∧ W'.cell? ⟨q + 1, 1, none⟩ = some (.int .u32 n) ∧ W'.cell? ⟨t, 1, none⟩ = some (.pointer (some ⟨kb, 0, none⟩)) ∧ W'.cell? ⟨q11, 0, none⟩ = some (.string y.f0) ∧ W'.cell? ⟨q11, 1, none⟩ = some (.string y.f1) ∧ W'.cell? ⟨q11, 2, none⟩ = some (.bool y.f2))
              (first | exact HS12.out _ (by (with_reducible repeat (first | exact N13.out | exact Mod.refl _ _ | refine Mod.drew ?_)))) (first
              | (go_at_call 66
                 (
                   have TD := H11.out.1.mod0 (Mod.refl W11 []).drew
                   refine Calls.mono (mset y.f0 ⟨⟨c, n⟩, y⟩ TD.hk hz) ?_
                   rintro e V13 ⟨rfl, fk2, hk2, m13, hs2⟩
                   have T13 := TD.keys hk2 m13 hs2
                   have N13 : Hid (Mod W11 V13 fk') := Lib.hid ((Mod.refl W11 fk').drew.trans m13 (fun z hz => .inl hz))
                   have H13 : Hid (TB V13 t hb' (m + 1) kb (vset Hd.c Hd.n ⟨c, n, q7, st, mn, pr, A7, k7, ws⟩ Hs) (lset (List.map pairOf (putJ c n st mn pr L (List.take j l))) y.f0 ⟨⟨c, n⟩, y⟩) fk2 ∧ ∀ z ∈ fk2, z ∈ fk' ∨ W11.heap.size ≤ z) := Lib.hid ⟨T13, hs2⟩
                   clear T13 hk2 m13 hs2 TD)))
            all_goals
              go_wp2
              go_roundg (l.length - (j + 1))
              case measure => omega
              case rel => exact ⟨j + 1, fk2, by omega, rfl, by rw [show ((j + 1 : Nat) : Int) = (j : Int) + 1 by omega], by rw [← H11.out.2.2.2.1]; exact H13.out.1, fun z hz => by
                rcases H13.out.2 z hz with e | e
                · exact HJ.out.2.2.2.2 z e
                · exact .inr (Nat.le_trans H11.out.2.2.1.size e), H11.out.2.2.1.trans N13.out (fun z hz => HJ.out.2.2.2.2 z hz)⟩
          · obtain rfl : j = l.length := by omega
            have hjz : ¬ (l.length : Int) < (l.length : Int) := by omega
            rw [List.take_length] at hT
            have HE := Lib.hid (And.intro hT (And.intro hsub hM))
            clear hT hsub hM hnotin
            go_wp2
            go_ret
            obtain ⟨hT, hsub, hM⟩ := HE.out
            have hlk := (HT10.out.2.1).lay (h' := ⟨c, n, q7, st, mn, pr, A7, k7, ws⟩) HT10.out.2.2.2.2.2 (fun e => by rw [e] at hn0; simp at hn0) hnd HPW.out.1 HPW.out.2 hT.hk.sorted
            refine ⟨rfl, ⟨_, ⟨hb', kb, _, fk', hT, hlk, rfl⟩, fun y hy => ?_⟩, HSZ.out.2.2.2.trans hM (fun z hz => .inl (by rw [HT10.out.2.2.1]; exact in_blocks.2 (.inr (.inr (.inl hz)))))⟩
            rw [HT10.out.2.2.1]
            have hW : W.heap.size ≤ V10.heap.size := HSZ.out.2.2.2.size
            rcases in_blocks.1 hy with e | e | e | ⟨z, hz, e⟩
            · exact .inl (in_blocks.2 (.inl e))
            · exact .inl (in_blocks.2 (.inr (.inl e)))
            · rcases hsub y e with e | e
              · exact .inl (in_blocks.2 (.inr (.inr (.inl e))))
              · exact .inr (Nat.le_trans hW e)
            · rcases vset_mem hz with rfl | hz
              · refine .inr ?_
                rcases List.mem_cons.1 e with e' | e'
                · have e' : y = q7 := e'
                  rw [e']
                  exact HQ7.out.1
                · exact HQ7.out.2 y e'
              · exact .inl (in_blocks.2 (.inr (.inr (.inr ⟨z, hz, e⟩))))
theorem layI_calls {W : World} {t m : Nat} {L : List S65} {fp : List Nat} (h : Tab W t m L fp) (c n : Int) (st mn : S35) (pr : ByteArray) (A : Option Addr) (cap : Nat) (l : List S63) (hr : Kd.C k63 W A l.length l) (hc : l.length ≤ cap) (hk : inK c n) (hl : l.length ≤ 1000000) (hA : 0 < l.length → ∀ ad, A = some ad → ad.block ∉ fp) (hmx : m ≤ 1000000) (hLl : L.length ≤ 1000000) {r : Int} {L' : List S65} (e1 : layB L c n st mn pr l = r) (e2 : layL L c n st mn pr l = L') :
    Calls Try.prog 26 #[.pointer (some ⟨t, 0, none⟩), .agg #[.int .u32 c, .int .u32 n], .agg #[.int .u64 st.f0, .int .u32 st.f1], .agg #[.int .u64 mn.f0, .int .u32 mn.f1], .string pr, .slice A l.length cap] W (LayP W t m fp r L') := by
  subst e1 e2
  unfold layL
  cases h1 : rightW l
  · rw [show layB L c n st mn pr l = 1 by unfold layB; rw [h1]; rfl, if_neg (by omega)]
    exact lay_bad1 h c n st mn pr A cap l hr hc h1
  cases h2 : rightB st.f0 st.f1
  · rw [show layB L c n st mn pr l = 1 by unfold layB; rw [h1, h2]; rfl, if_neg (by omega)]
    exact lay_bad2 h c n st mn pr A cap l hr hc h1 h2
  cases h3 : rightB mn.f0 mn.f1
  · rw [show layB L c n st mn pr l = 1 by unfold layB; rw [h1, h2, h3]; rfl, if_neg (by omega)]
    exact lay_bad3 h c n st mn pr A cap l hr hc h1 h2 h3
  cases h4 : keyB pr
  · rw [show layB L c n st mn pr l = 1 by unfold layB; rw [h1, h2, h3, h4]; rfl, if_neg (by omega)]
    exact lay_bad4 h c n st mn pr A cap l hr hc h1 h2 h3 h4
  by_cases h5 : byL L c n = []
  · cases h6 : anyBusy L l
    · have e : layB L c n st mn pr l = 0 := by unfold layB; rw [h1, h2, h3, h4, h6, decide_eq_false (fun z => z h5)]; rfl
      rw [e, if_pos rfl]
      exact lay_ok h c n st mn pr A cap l hr hc h1 h2 h3 h4 hk h5 hl h6 (hA (by unfold rightW at h1; simp only [Bool.and_eq_true, decide_eq_true_eq] at h1; exact h1.1.1.1)) hmx hLl
    · have e : layB L c n st mn pr l = 40 := by unfold layB; rw [h1, h2, h3, h4, h6]; simp
      rw [e, if_neg (by omega)]
      exact lay_busy h c n st mn pr A cap l hr hc h1 h2 h3 h4 hk h5 hl h6
  · have e : layB L c n st mn pr l = 40 := by unfold layB; rw [h1, h2, h3, h4, decide_eq_true h5]; simp
    rw [e, if_neg (by omega)]
    exact lay_held h c n st mn pr A cap l hr hc h1 h2 h3 h4 hk h5
end Go.Proofs.Ytdelbidaclddgaa.Lat
