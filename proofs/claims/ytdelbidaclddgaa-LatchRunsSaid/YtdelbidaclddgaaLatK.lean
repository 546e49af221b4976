/- The layer 'latch': LatK; a seat's own text, no law of its own. -/
import Derived.Test.YtdelbidaclddgaaLatJ
import Derived.Deep.LoopGhost
import Derived.Deep.Cut
import Derived.Lib.Hide
import Derived.StillTailTactics
import Derived.Deep.QuietTactic
import Derived.BigQuiet
import Derived.Outline
import Derived.Deep.RegionWith
import Derived.Deep.RegionHeld3
import Derived.WalkLawsBesides
namespace Go.Proofs.Ytdelbidaclddgaa.Lat
open Go.RowKit Go.Proofs.YtdelbidaclddgaaW.PrintWords Go.Proofs.Ytdelbidaclddgaa.MLatchRuns Go.Proofs.YtdelbidaclddgaaW.PrintLast
set_option linter.unusedVariables false
set_option linter.unusedSimpArgs false
/-! New, Clone, the closure of Lay -/
set_option maxHeartbeats 4000000 in
set_option maxRecDepth 100000 in
theorem newT_calls (w : World) : Calls Try.prog 25 #[] w fun e W' => ∃ t fp, e = .returned (.pointer (some ⟨t, 0, none⟩)) ∧ Tab W' t 0 [] fp ∧ Mod w W' [] ∧ ∀ y ∈ fp, w.heap.size ≤ y := by
  have hmm := @run_makeMap Try.prog
  have h0 : (w.alloc (.map #[] 0)).ownsMap Try.prog 32 RPt w.heap.size 0 (HD []) := World.ownsMap_made w _ _ _
  have H0 := Lib.hid (And.intro h0 ((Mod.refl w []).alloc (.map #[] 0)))
  clear h0
  go_enter Try.func25, Try.ntmps25
  go_wp2_with fail
  clear hmm
  have hs : (w.alloc (.map #[] 0)).heap.size = w.heap.size + 1 := by simp
  refine mnew.mono ?_
  rintro e W2 ⟨rfl, hmf, m2⟩
  generalize w.alloc (.map #[] 0) = W1 at *
  have m3 : Mod W2 (W2.alloc (.cells #[.map (some w.heap.size), .pointer (some ⟨W1.heap.size, 0, none⟩)] 107)) [] := (Mod.refl W2 []).alloc _
  have b3 := blk_new W2 (.cells #[.map (some w.heap.size), .pointer (some ⟨W1.heap.size, 0, none⟩)] 107)
  have HF := Lib.hid (And.intro hmf (And.intro m2 (And.intro m3 b3)))
  have HQ : Hid (W1.heap.size = w.heap.size + 1 ∧ W1.heap.size < W2.heap.size) := Lib.hid ⟨hs, hmf.lt _ (by simp)⟩
  clear hmf m2 m3 b3 hs
  go_wp2
  go_ret
  obtain ⟨hmf, m2, m3, b3⟩ := HF.out
  obtain ⟨e1, e2⟩ := HQ.out
  refine ⟨W2.heap.size, _, rfl, ⟨w.heap.size, W1.heap.size, [], [W1.heap.size], ⟨b3, owns_mod (owns_mod H0.out.1 m2 (by simp)) m3 (by simp), List.Pairwise.nil, fun h hh => (by cases hh), hmf.mod m3 (fun _ _ => by simp), fun h hh => (by cases hh), by simp; omega, by simp; omega, fun h hh => (by cases hh), List.Pairwise.nil⟩, ⟨fun x hx => (by cases hx), fun h hh => (by cases hh)⟩, rfl⟩, (H0.out.2.trans m2 (fun _ hk => by cases hk)).trans m3 (fun _ hk => by cases hk), fun y hy => ?_⟩
  rcases in_blocks.1 hy with rfl | rfl | hy | ⟨h, hh, _⟩
  · omega
  · exact Nat.le_refl _
  · simp at hy; omega
  · cases hh
theorem info63 : (Try.prog.info? 63).map (fun i => (i.zero, i.size, i.bytes)) = some (some (.agg #[.string z63.f0, .string z63.f1, .bool z63.f2]), 3, 40) := by kernel_rfl
theorem w_reads {w W : World} {A : Option Addr} {n : Nat} {l : List S63} (h : Kd.C k63 w A n l) (hb : Below w.heap.size w W) (V : World) (base : Nat) (ok : Nat → Prop) : ReadsRow (k63.M V base ok) k63.sz W A n l :=
  ReadsRow.imp_ h hb (fun x cs hp => by rw [k63_open hp]; exact k63_mkM _ _ _ _)
set_option maxHeartbeats 4000000 in
set_option maxRecDepth 100000 in
theorem clone_calls (A0 : Option Addr) (c0 : Nat) (l0 : List S63) (w : World) (hr0 : Kd.C k63 w A0 l0.length l0) (hc0 : l0.length ≤ c0) (hl : l0.length ≤ 1000000) (hn : 0 < l0.length) :
    Calls Try.prog 63 #[.slice A0 l0.length c0] w fun e w' => ∃ A k, e = .returned (.slice A l0.length k) ∧ Row k63 63 w' (.slice A l0.length k) l0 ∧ (∀ y ∈ ownList (.slice A l0.length k), w.heap.size ≤ y) ∧ Mod w w' [] := by
  have HR := Lib.hid (And.intro hr0 hl)
  have hq : ∀ (w : World) (a : Option Addr) (n c n' c' : Nat), (binOp .eql 56 (.slice a n c) (.slice none n' c')).run Try.prog w = .ok (.bool a.isNone) w := fun w a n c n' c' => Lib.run_eql_slice_nil w _ _ a n c n' c' Try.underlying56
  clear hl
  obtain ⟨ad, rfl, -⟩ := hr0.2.2 hn
  clear hr0
  go_enter Try.func63, Try.ntmps63
  have hrow : Kd.R k63 63 (w.alloc (.cells #[] 63)) w.heap.size (fun _ => True) (.slice (some ⟨w.heap.size, 0, none⟩) 0 0) ([] : List S63) :=
    ⟨fun _ _ => trivial, [], World.ownsRow_made w #[] 0 (Nat.le_refl _) (Nat.zero_le _) rfl, rfl, fun j p hj => by simp at hj⟩
  have HN := Lib.hid hrow
  clear hrow
  go_wp2_with (first | (at_builtin; go_loud (refine Kd.R_append_rows k63 (w0 := w) (W := w.alloc (.cells #[] 63)) w.heap.size rfl _ _ 56 63 _ 40 rfl Try.underlying56 info63 rfl (by decide) (by decide) (.slice (some ⟨w.heap.size, 0, none⟩) 0 0) [] l0 (some ad) l0.length c0 (fun _ => True) (fun _ => False) rfl rfl HN.out ?b0 (fun x cs h => h) (fun k h => h.elim) (fun _ _ => trivial) ?b1 ?b3 ?b2 ?_)) | fail)
  case b0 => exact w_reads HR.out.1 (below_alloc (Below.refl _ _) _) _ _ _
  case b1 => exact below_alloc (Below.refl _ _) _
  case b2 => have := HR.out.2; simp; omega
  case b3 => simp
  intro v1 W1 o1 b1 _ _
  obtain ⟨A1, k1, rfl, _⟩ := Kd.R_reads o1
  have H1 := Lib.hid (And.intro o1 b1)
  clear o1 b1
  go_wp2
  go_ret
  exact ⟨A1, k1, rfl, Row.of H1.out.1, fun y hy => Kd.R_base H1.out.1 y (own_mem _ y hy), Mod.of_below H1.out.2⟩
def busyB (L : List S65) (x : S63) : Bool := (findI x.f0 L).isSome
structure Bc (W V : World) (qt q t m : Nat) (L : List S65) (fp : List Nat) (x : S63) : Prop where
  hM : Mod W V []
  hT : Tab V t m L fp
  hP : V.heap[qt]? = some (.cells #[.pointer (some ⟨t, 0, none⟩)] 59 (0, 0))
  hX : WB V q x
set_option maxHeartbeats 4000000 in
set_option maxRecDepth 100000 in
theorem busy_calls {W : World} {qt t m : Nat} {L : List S65} {fp : List Nat} (h : Tab W t m L fp) (hp : W.heap[qt]? = some (.cells #[.pointer (some ⟨t, 0, none⟩)] 59 (0, 0))) (x : S63) {r : Bool} (hr : busyB L x = r) :
    Calls Try.prog 60 #[.agg #[.string x.f0, .string x.f1, .bool x.f2], .pointer (some ⟨qt, 0, none⟩)] W fun e W' => e = .returned (.bool r) ∧ Mod W W' [] := by
  have m1 := (Mod.refl W []).alloc (.cells #[.string x.f0, .string x.f1, .bool x.f2] 63)
  have x1 : WB (W.alloc (.cells #[.string x.f0, .string x.f1, .bool x.f2] 63)) W.heap.size x := blk_new W _
  have H1 : Hid (Bc W (W.alloc (.cells #[.string x.f0, .string x.f1, .bool x.f2] 63)) qt W.heap.size t m L fp x) := Lib.hid ⟨m1, h.mod0 m1, m1.at_ hp (by simp), x1⟩
  obtain ⟨hb, kb, Hs, fk, h1, lk, rfl⟩ := h
  have HT := Lib.hid (h1.mod0 m1)
  have hget := lget_find x.f0 h1.hk.sorted
  obtain ⟨o, ok, ho⟩ : ∃ (o : S105) (ok : Bool), getEnd (lget (L.map pairOf) x.f0) = .returned (.tuple #[.agg #[.int .u32 o.f0.f0, .int .u32 o.f0.f1, .string o.f1.f0, .string o.f1.f1, .bool o.f1.f2], .bool ok]) ∧ ok = r := by
    unfold busyB at hr
    rw [hget, ← hr]
    cases findI x.f0 L with
    | none => exact ⟨z105, false, rfl, rfl⟩
    | some y => exact ⟨⟨y.f0, y.f4⟩, true, rfl, rfl⟩
  have HO := Lib.hid ho
  clear h1 lk m1 x1 hp hget ho hr
  go_enter Try.func60, Try.ntmps60
  go_upto_region 1 with fail
  generalize W.alloc _ = W1 at *
  generalize W.heap.size = q at *
  have HS : Hid (∀ W', Mod W1 W' [] → W'.cell? ⟨qt, 0, none⟩ = some (.pointer (some ⟨t, 0, none⟩)) ∧ W'.cell? ⟨t, 1, none⟩ = some (.pointer (some ⟨kb, 0, none⟩)) ∧ W'.cell? ⟨q, 0, none⟩ = some (.string x.f0) ∧ W'.cell? ⟨q, 1, none⟩ = some (.string x.f1) ∧ W'.cell? ⟨q, 2, none⟩ = some (.bool x.f2)) := Lib.hid fun W' mm => by
    obtain ⟨a, b, c⟩ := (H1.out.hX.mod mm (by simp)).all
    exact ⟨(blk_cell (mm.at_ H1.out.hP (by simp)) 0).trans rfl, (HT.out.mod0 mm).c1, a, b, c⟩
  go_region_held3 (fun W' => W'.cell? ⟨qt, 0, none⟩ = some (.pointer (some ⟨t, 0, none⟩)) ∧ W'.cell? ⟨t, 1, none⟩ = some (.pointer (some ⟨kb, 0, none⟩)) ∧ W'.cell? ⟨q, 0, none⟩ = some (.string x.f0) ∧ W'.cell? ⟨q, 1, none⟩ = some (.string x.f1) ∧ W'.cell? ⟨q, 2, none⟩ = some (.bool x.f2))
    (first | exact HS.out _ (by (with_reducible repeat (first | exact N4.out | exact Mod.refl _ _ | refine Mod.alloc ?_ _ | refine Mod.drew ?_ | refine Mod.setCell ?_ (.inr (by first | exact Z4.out | exact N4.out.size)) _)))) (first
    | (go_at_call 61
       (
         have T5 := HT.out.mod0 ((Mod.refl W1 []).drew.alloc (.cells #[.int .u32 0, .int .u32 0, .string ⟨#[]⟩, .string ⟨#[]⟩, .bool false] 105))
         refine Calls.mono (mget x.f0 T5.hk) ?_
         rw [HO.out.1]
         rintro e V4 ⟨rfl, m4⟩
         have o4 : OB V4 W1.heap.size z105 := m4.at_ (blk_new W1.drew _) (by simp)
         have Z4 : Hid (W1.heap.size ≤ W1.heap.size) := Lib.hid (Nat.le_refl _)
         have N4 : Hid (Mod W1 V4 []) := Lib.hid (((Mod.refl W1 []).drew.alloc _).trans m4 (fun _ hk => by cases hk))
         obtain ⟨z0, z1, z2, z3, z4⟩ := o4.all
         simp only [z105, z32, z63] at z0 z1 z2 z3 z4
         have zf := blk_frozen o4
         clear m4 T5 o4))
    | (go_at_call 61
       (
         have T5 := HT.out.mod0 (Mod.refl W1 []).drew
         refine Calls.mono (mget x.f0 T5.hk) ?_
         rw [HO.out.1]
         rintro e V4 ⟨rfl, m4⟩
         have N4 : Hid (Mod W1 V4 []) := Lib.hid ((Mod.refl W1 []).drew.trans m4 (fun _ hk => by cases hk))
         clear m4 T5)))
  all_goals
    go_wp2
    go_ret
    obtain ⟨-, rfl⟩ := HO.out
    refine ⟨rfl, Mod.trans (fp' := []) H1.out.hM ?_ (fun _ hk => by cases hk)⟩
    (with_reducible repeat (first | exact N4.out | exact Mod.refl _ _ | refine Mod.alloc ?_ _ | refine Mod.drew ?_ | refine Mod.setCell ?_ (.inr (by first | exact Z4.out | exact N4.out.size)) _))
/-! slices.ContainsFunc with that closure -/
def anyBusy (L : List S65) (l : List S63) : Bool := l.any (busyB L)
set_option maxHeartbeats 4000000 in
set_option maxRecDepth 100000 in
theorem index_calls {W : World} {qt t m : Nat} {L : List S65} {fp : List Nat} (h : Tab W t m L fp) (hp : W.heap[qt]? = some (.cells #[.pointer (some ⟨t, 0, none⟩)] 59 (0, 0))) (A : Option Addr) (c : Nat) (l : List S63) (hr : Kd.C k63 W A l.length l) (hc : l.length ≤ c) (hl : l.length ≤ 1000000) {b : Bool} (hb : anyBusy L l = b) :
    Calls Try.prog 81 #[.slice A l.length c, .func (.func 60) #[] #[.pointer (some ⟨qt, 0, none⟩)]] W fun e W' => ∃ r : Int, e = .returned (.int .i64 r) ∧ decide (r ≥ 0) = b ∧ Mod W W' [] := by
  have H := Lib.hid (And.intro h (And.intro hp (And.intro hr (And.intro hc hb))))
  have eg : ∀ args w, (callFunc 60 args).run Try.prog w = .ok (.enter 60 args) w := enters_of Try.func60 (by kernel_rfl) rfl
  clear h hp hr hc hb
  go_enter Try.func81, Try.ntmps81
  go_wp2_with fail
  go_loopg [8] l.length (fun k i wr => ∃ (j : Nat), j ≤ l.length ∧ k = l.length - j ∧ i = .int .i64 j ∧ (l.drop j).any (busyB L) = b ∧ Mod W wr [])
  case atStart => exact ⟨0, Nat.zero_le _, rfl, rfl, H.out.2.2.2.2, Mod.refl _ _⟩
  case round =>
    obtain ⟨j, hj, rfl, rfl, hany, hM⟩ := hrel
    by_cases hjl : j < l.length
    · have hjz : (j : Int) < (l.length : Int) := by omega
      have hw : IntKind.i64.wrap ((j : Int) + 1) = ((j + 1 : Nat) : Int) := by rw [i64w (by omega) (by omega)]; omega
      obtain ⟨ad, rfl, a0, a1, a2⟩ := wr_cells (Kd.C_below H.out.2.2.1 hM.bel) j hjl
      rw [List.drop_eq_getElem_cons hjl, List.any_cons] at hany
      obtain ⟨r1, hr1⟩ : ∃ r1, busyB L l[j] = r1 := ⟨_, rfl⟩
      rw [hr1] at hany
      have HJ := Lib.hid (And.intro hany (And.intro hM hr1))
      clear hany hM hr1
      generalize l[j] = y at *
      go_wp2_with fail
      refine (busy_calls (H.out.1.mod0 HJ.out.2.1) (HJ.out.2.1.at_ H.out.2.1 (by simp)) y HJ.out.2.2).mono ?_
      rintro e W3 ⟨rfl, m3⟩
      have H3 := Lib.hid (HJ.out.2.1.trans m3 (fun _ hk => by cases hk))
      clear m3 a0 a1 a2
      cases r1
      · have HE : Hid ((l.drop (j + 1)).any (busyB L) = b) := Lib.hid (by have h := HJ.out.1; rw [Bool.false_or] at h; exact h)
        go_wp2
        go_roundg (l.length - (j + 1))
        case measure => omega
        case rel => exact ⟨j + 1, by omega, rfl, by rw [show ((j + 1 : Nat) : Int) = (j : Int) + 1 by omega], HE.out, H3.out⟩
      · have HE : Hid (true = b) := Lib.hid (by have h := HJ.out.1; rw [Bool.true_or] at h; exact h)
        have HD : Hid (decide ((j : Int) ≥ 0) = true) := Lib.hid (decide_eq_true (by omega))
        go_wp2
        go_ret
        exact ⟨j, rfl, by rw [← HE.out]; exact HD.out, H3.out⟩
    · obtain rfl : j = l.length := by omega
      have hjz : ¬ (l.length : Int) < (l.length : Int) := by omega
      rw [List.drop_length] at hany
      have HE := Lib.hid (And.intro hany hM)
      clear hany hM
      go_wp2
      go_ret
      exact ⟨-1, rfl, by rw [← HE.out.1]; rfl, HE.out.2⟩
set_option maxHeartbeats 4000000 in
set_option maxRecDepth 100000 in
theorem contains_calls {W : World} {qt t m : Nat} {L : List S65} {fp : List Nat} (h : Tab W t m L fp) (hp : W.heap[qt]? = some (.cells #[.pointer (some ⟨t, 0, none⟩)] 59 (0, 0))) (A : Option Addr) (c : Nat) (l : List S63) (hr : Kd.C k63 W A l.length l) (hc : l.length ≤ c) (hl : l.length ≤ 1000000) {b : Bool} (hb : anyBusy L l = b) :
    Calls Try.prog 62 #[.slice A l.length c, .func (.func 60) #[] #[.pointer (some ⟨qt, 0, none⟩)]] W fun e W' => e = .returned (.bool b) ∧ Mod W W' [] := by
  have H := Lib.hid (index_calls h hp A c l hr hc hl hb)
  clear h hp hr hc hb
  go_enter Try.func62, Try.ntmps62
  go_wp2_with fail
  refine H.out.mono ?_
  rintro e W3 ⟨r, rfl, hd, m3⟩
  have H3 := Lib.hid (And.intro m3 hd)
  clear m3 hd
  go_wp2
  go_ret
  exact ⟨congrArg (fun x => Ending.returned (.bool x)) H3.out.2, H3.out.1⟩
end Go.Proofs.Ytdelbidaclddgaa.Lat
