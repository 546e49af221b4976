/- The layer 'latch': LatV; a seat's own text, no law of its own. -/
import Derived.Test.YtdelbidaclddgaaLatQ
import Derived.Deep.LoopGhost
import Derived.Deep.Cut
import Derived.Deep.CutRange
import Derived.Deep.CutBlock
import Derived.Lib.Hide
import Derived.StillTailTactics
import Derived.Deep.QuietTactic
import Derived.BigQuiet
import Derived.Outline
import Derived.Deep.RegionWith
import Derived.Deep.RegionHeld3
import Derived.WalkLawsBesides
namespace Go.Proofs.Ytdelbidaclddgaa.Lat
open Go.RowKit Go.Proofs.YtdelbidaclddgaaW.PrintWords Go.Proofs.Ytdelbidaclddgaa.MLatchRuns Go.Proofs.YtdelbidaclddgaaW.PrintLast
set_option linter.unusedVariables false
set_option linter.unusedSimpArgs false
/-! the reference table: a struct of one row -/
def RT (W : World) (g : Nat) (L : List S65) (fp : List Nat) : Prop := BoxF k65 65 79 W g L fp
theorem RT.mod {W W' : World} {g : Nat} {L : List S65} {fp fp2 : List Nat} (h : RT W g L fp) (m : Mod W W' fp2) (hd : ∀ x ∈ fp, x ∉ fp2) : RT W' g L fp := BoxF.mod plain65 h m hd
theorem RT.mod0 {W W' : World} {g : Nat} {L : List S65} {fp : List Nat} (h : RT W g L fp) (m : Mod W W' []) : RT W' g L fp := h.mod m (by simp)
theorem RT.lt {W : World} {g : Nat} {L : List S65} {fp : List Nat} (h : RT W g L fp) : ∀ x ∈ fp, x < W.heap.size := BoxF.lt h
theorem RT.get {W : World} {g : Nat} {L : List S65} {fp : List Nat} (h : RT W g L fp) : ∃ A k, W.cell? ⟨g, 0, none⟩ = some (.slice A L.length k) ∧ L.length ≤ k ∧ Kd.C k65 W A L.length L := by
  obtain ⟨v, h1, h2, h3, rfl⟩ := h
  obtain ⟨A, k, rfl, h4, h5⟩ := h2.C
  exact ⟨A, k, (blk_cell h1 0).trans rfl, h4, h5⟩
theorem cellM {W V : World} {b : Nat} {v : Value} (h : W.cell? ⟨b, 0, none⟩ = some v) (m : Mod W V []) : V.cell? ⟨b, 0, none⟩ = some v := by
  rw [World.cell?_of_block (w := W) (m.block b (World.block_lt_of_cell? _ _ h) (by simp))]; exact h
theorem drop_find {p : S65 → Bool} {L : List S65} {j : Nat} (hj : j < L.length) {res : Option S65} (h : (L.drop j).find? p = res) : (if p L[j] = true then some L[j] else (L.drop (j + 1)).find? p) = res := by
  rw [List.drop_eq_getElem_cons hj, List.find?_cons] at h
  cases e : p L[j]
  · rw [if_neg (by simp)]; rw [e] at h; exact h
  · rw [if_pos rfl]; rw [e] at h; exact h
set_option maxHeartbeats 4000000 in
set_option maxRecDepth 100000 in
theorem rof_calls {W : World} {g : Nat} {L : List S65} {fp : List Nat} (h : RT W g L fp) (key : ByteArray) (hl : L.length ≤ 1000000) {res : Option S65} (hres : findI key L = res) :
    Calls Try.prog 39 #[.pointer (some ⟨g, 0, none⟩), .string key] W fun e W' => e = ofEnd res ∧ Mod W W' [] := by
  have m0 := (Mod.refl W []).alloc (.cells #[.int .u32 z65.f0.f0, .int .u32 z65.f0.f1, .int .u64 z65.f1.f0, .int .u32 z65.f1.f1, .int .u64 z65.f2.f0, .int .u32 z65.f2.f1, .string z65.f3, .string z65.f4.f0, .string z65.f4.f1, .bool z65.f4.f2] 65)
  have b0 : IB (W.alloc (.cells #[.int .u32 z65.f0.f0, .int .u32 z65.f0.f1, .int .u64 z65.f1.f0, .int .u32 z65.f1.f1, .int .u64 z65.f2.f0, .int .u32 z65.f2.f1, .string z65.f3, .string z65.f4.f0, .string z65.f4.f1, .bool z65.f4.f2] 65)) W.heap.size z65 := blk_new W _
  have H1 := Lib.hid (And.intro (h.mod0 m0) (And.intro b0 m0))
  simp only [z65, z32, z35, z63] at H1
  clear m0 b0 h
  go_enter Try.func39, Try.ntmps39
  go_upto_region 1 with fail
  generalize W.alloc _ = W1 at *
  generalize hg : W.heap.size = q at *
  obtain ⟨A, k, c0, hk, hC⟩ := H1.out.1.get
  have fz := blk_frozen H1.out.2.1
  have HC := Lib.hid hC
  have HG := Lib.hid hg
  clear hC hg
  unfold findI at hres
  obtain ⟨d0, d1, d2, d3, d4, d5, d6, d7, d8, d9⟩ := H1.out.2.1.all
  go_wp2_with fail
  go_loopg [6] L.length (fun k i wr => ∃ j : Nat, j ≤ L.length ∧ k = L.length - j ∧ i = .int .i64 j ∧ (L.drop j).find? (fun x => decide (x.f4.f0.toList = key.toList)) = res ∧ wr = W1)
  case atStart => exact ⟨0, Nat.zero_le _, rfl, rfl, hres, rfl⟩
  case round =>
    obtain ⟨j, hj, rfl, rfl, hr, rfl⟩ := hrel
    clear hres
    by_cases hjl : j < L.length
    · have hjz : (j : Int) < (L.length : Int) := by omega
      have hw : IntKind.i64.wrap ((j : Int) + 1) = ((j + 1 : Nat) : Int) := by rw [i64w (by omega) (by omega)]; omega
      obtain ⟨ad, rfl, a0, a1, a2, a3, a4, a5, a6, a7, a8, a9⟩ := it_cells HC.out j hjl
      have hr2 := drop_find hjl hr
      clear hr
      obtain ⟨y, hy⟩ : ∃ y, L[j] = y := ⟨_, rfl⟩
      rw [hy] at a0 a1 a2 a3 a4 a5 a6 a7 a8 a9 hr2
      clear hy
      by_cases hk : y.f4.f0.toList = key.toList
      · have hkb : (y.f4.f0.toList == key.toList) = true := by simpa using hk
        rw [decide_eq_true hk, if_pos rfl] at hr2
        have HR := Lib.hid hr2
        clear hr2 hk
        go_wp2
        have hp := H1.out.2.1.put y
        have hm := H1.out.2.2.putIB (.inr (Nat.le_of_eq HG.out)) y
        unfold putIB at hp hm
        unfold IB at hp
        refine bodyPost_ret (results_ct rfl _ _ q 65 _ (0, 0) _ rfl hp Try.underlying65 rfl (by kernel_rfl)) rfl ?_
        rw [← HR.out]
        exact ⟨rfl, hm⟩
      · have hkb : (y.f4.f0.toList == key.toList) = false := by simpa using hk
        rw [decide_eq_false hk, if_neg (by simp)] at hr2
        have HR := Lib.hid hr2
        clear hr2 hk
        go_wp2
        go_roundg (L.length - (j + 1))
        case measure => omega
        case rel => exact ⟨j + 1, by omega, rfl, by rw [show ((j + 1 : Nat) : Int) = (j : Int) + 1 by omega], HR.out, rfl⟩
    · obtain rfl : j = L.length := by omega
      have hjz : ¬ (L.length : Int) < (L.length : Int) := by omega
      rw [List.drop_length] at hr
      have HR := Lib.hid hr
      clear hr
      go_wp2
      have hp := H1.out.2.1.put z65
      have hm := H1.out.2.2.putIB (.inr (Nat.le_of_eq HG.out)) z65
      unfold putIB at hp hm
      unfold IB at hp
      refine bodyPost_ret (results_ct rfl _ _ q 65 _ (0, 0) _ rfl hp Try.underlying65 rfl (by kernel_rfl)) rfl ?_
      rw [← HR.out]
      exact ⟨rfl, hm⟩
/-! the reference's By and Cut -/
attribute [local go_sem high] eqA32 eqA35
theorem take_filter {p : S65 → Bool} {L : List S65} {j : Nat} (hj : j < L.length) : (L.take (j + 1)).filter p = if p L[j] = true then (L.take j).filter p ++ [L[j]] else (L.take j).filter p := by
  rw [List.take_succ_eq_append_getElem hj, List.filter_append]
  cases e : p L[j]
  · rw [if_neg (by simp)]; simp [e]
  · rw [if_pos rfl]; simp [e]
theorem take_filter_len {p : S65 → Bool} (L : List S65) (j : Nat) : ((L.take j).filter p).length ≤ L.length := Nat.le_trans (List.length_filter_le _ _) (by rw [List.length_take]; omega)
set_option maxHeartbeats 4000000 in
set_option maxRecDepth 100000 in
theorem rby_calls {W : World} {g : Nat} {L : List S65} {fp : List Nat} (h : RT W g L fp) (hl : L.length ≤ 1000000) (c n : Int) {ys : List S65} (hys : byL L c n = ys) :
    Calls Try.prog 40 #[.pointer (some ⟨g, 0, none⟩), .agg #[.int .u32 c, .int .u32 n]] W (AllP W ys) := by
  have m1 := ((Mod.refl W []).alloc (.cells #[.int .u32 c, .int .u32 n] 32))
  have n1 : NB (W.alloc (.cells #[.int .u32 c, .int .u32 n] 32)) W.heap.size ⟨c, n⟩ := blk_new W _
  have H1 := Lib.hid (And.intro (h.mod0 m1) (And.intro n1 m1))
  have HY := Lib.hid hys
  clear m1 n1 h hys
  go_enter Try.func40, Try.ntmps40
  go_upto_region 2 with fail
  generalize W.alloc _ = W1 at *
  generalize hg : W.heap.size = q at *
  obtain ⟨A, k, c0, hk, hC⟩ := H1.out.1.get
  have HC := Lib.hid (And.intro hC c0)
  have HG := Lib.hid hg
  clear hC hg c0
  go_wp2_with fail
  go_loopg [5, 6] L.length (fun k lv i wr => ∃ j : Nat, j ≤ L.length ∧ k = L.length - j ∧ i = .int .i64 j ∧ k65.R 65 wr 0 (fun b => W1.heap.size ≤ b) lv ((L.take j).filter (isBy c n)) ∧ Mod W1 wr [])
  case atStart => exact ⟨0, Nat.zero_le _, rfl, rfl, Kd.R_nil _ _ _ _ _, Mod.refl _ _⟩
  case round =>
    obtain ⟨j, hj, rfl, rfl, hR, hM⟩ := hrel
    obtain ⟨B, d, rfl, hd, hC⟩ := Kd.R_reads hR
    have c0 := cellM HC.out.2 hM
    obtain ⟨n0, n1⟩ := (H1.out.2.1.mod hM (by simp)).all
    have hjt := hj
    by_cases hjl : j < L.length
    · have hjz : (j : Int) < (L.length : Int) := by omega
      have hw : IntKind.i64.wrap ((j : Int) + 1) = ((j + 1 : Nat) : Int) := by rw [i64w (by omega) (by omega)]; omega
      obtain ⟨ad, rfl, a0, a1, a2, a3, a4, a5, a6, a7, a8, a9⟩ := it_cells (Kd.C_below HC.out.1 hM.bel) j hjl
      have hnx := take_filter (p := isBy c n) hjl
      have hacc := take_filter_len (p := isBy c n) L j
      obtain ⟨y, hy⟩ : ∃ y, L[j] = y := ⟨_, rfl⟩
      rw [hy] at a0 a1 a2 a3 a4 a5 a6 a7 a8 a9 hnx
      clear hy hC
      obtain ⟨b, hb⟩ : ∃ b, isBy c n y = b := ⟨_, rfl⟩
      have hb2 : (y.f0.f0 == c && (y.f0.f1 == n)) = b := by rw [← hb]; unfold isBy; rw [Bool.eq_iff_iff]; simp
      rw [hb] at hnx
      have HJ := Lib.hid (And.intro hR (And.intro hM hnx))
      clear hR hM hnx hb
      generalize (L.take j).filter (isBy c n) = acc at *
      go_upto_region 5 with fail
      go_quiet (fail)
      generalize hW4 : wr.drewN _ = W4 at *
      have m4 : Mod wr W4 [] := by rw [← hW4]; exact (Mod.refl wr []).drewN _
      have H4 := Lib.hid (And.intro (R_mod HJ.out.1 m4) (And.intro (HJ.out.2.1.trans m4 (fun _ hk => by cases hk)) HJ.out.2.2))
      have c4 := cellM c0 m4
      have cm : ∀ {p : Addr} {v : Value}, wr.cell? p = some v → W4.cell? p = some v := fun {p v} hp => m4.cellA hp (by simp)
      have a0 := cm a0
      have a1 := cm a1
      have a2 := cm a2
      have a3 := cm a3
      have a4 := cm a4
      have a5 := cm a5
      have a6 := cm a6
      have a7 := cm a7
      have a8 := cm a8
      have a9 := cm a9
      clear hW4 m4 HJ c0 cm
      cases b
      · go_wp2
        go_roundg (L.length - (j + 1))
        case measure => omega
        case rel => exact ⟨j + 1, by omega, rfl, by rw [show ((j + 1 : Nat) : Int) = (j : Int) + 1 by omega], by rw [H4.out.2.2, if_neg (by simp)]; exact H4.out.1, H4.out.2.1⟩
      · go_wp2_with (first | (at_builtin; refine Kd.R_append k65 (w0 := W4) (W := W4) 0 rfl _ _ 66 65 (.agg #[.int .u32 z65.f0.f0, .int .u32 z65.f0.f1, .int .u64 z65.f1.f0, .int .u32 z65.f1.f1, .int .u64 z65.f2.f0, .int .u32 z65.f2.f1, .string z65.f3, .string z65.f4.f0, .string z65.f4.f1, .bool z65.f4.f2]) 96 rfl Try.underlying66 info65 rfl (by decide) (by decide) (.slice B acc.length d) acc y [.int .u32 y.f0.f0, .int .u32 y.f0.f1, .int .u64 y.f1.f0, .int .u32 y.f1.f1, .int .u64 y.f2.f0, .int .u32 y.f2.f1, .string y.f3, .string y.f4.f0, .string y.f4.f1, .bool y.f4.f2] (fun b => W1.heap.size ≤ b) (fun _ => False) rfl rfl (k65_mkM _ _ _ y) (fun k h => h.elim) (fun k h => Nat.le_trans H4.out.2.1.size h) H4.out.1 (Below.refl _ _) (Nat.zero_le _) (by omega) ?_) | fail)
        intro v9 W9 o9 _ g9 _
        have m9 : Mod W1 W9 [] := H4.out.2.1.trans (mod_own g9) (fun z hz => .inr (H4.out.1.1 z (own_mem _ z hz)))
        have H9 := Lib.hid (And.intro o9 m9)
        clear o9 g9 m9
        go_wp2
        go_roundg (L.length - (j + 1))
        case measure => omega
        case rel => exact ⟨j + 1, by omega, rfl, by rw [show ((j + 1 : Nat) : Int) = (j : Int) + 1 by omega], by rw [H4.out.2.2]; (first | rw [if_pos rfl] | rw [if_pos trivial] | rw [if_pos (by simp)]); exact H9.out.1, H9.out.2⟩
    · obtain rfl : j = L.length := by omega
      have hjz : ¬ (L.length : Int) < (L.length : Int) := by omega
      rw [List.take_length] at hR hd hC ⊢
      have e : L.filter (isBy c n) = ys := HY.out
      rw [e] at hR hd hC ⊢
      have HJ := Lib.hid (And.intro hR hM)
      clear hR hd hC hM e
      go_wp2
      go_ret
      exact ⟨B, d, rfl, Kd.R_mono HJ.out.1 (fun k hk => Nat.le_trans H1.out.2.2.size hk), H1.out.2.2.trans HJ.out.2 (by simp)⟩
/-! the reference's put -/
attribute [local go_sem high] eqA32 eqA35
theorem iput_at {x : S65} : ∀ {L : List S65} {i : Nat}, i ≤ L.length → (∀ m (hm : m < L.length), m < i → Tree.lt L[m].f4.f0 x.f4.f0 = true) → (∀ h : i < L.length, Tree.lt L[i].f4.f0 x.f4.f0 = false) → iput x L = L.take i ++ x :: L.drop i
  | [], i, hi, _, _ => by simp at hi; subst hi; rfl
  | y :: r, 0, _, _, h => by
    have h0 := h (by simp)
    simp only [List.getElem_cons_zero] at h0
    rw [iput, if_neg (by rw [h0]; simp)]; rfl
  | y :: r, i + 1, hi, hl, h => by
    have h0 := hl 0 (by simp) (by omega)
    simp only [List.getElem_cons_zero] at h0
    rw [iput, if_pos h0, iput_at (L := r) (i := i) (by simp at hi; omega) (fun m hm hmi => by have := hl (m + 1) (by simp; omega) (by omega); simpa using this) (fun hh => by have := h (by simp; omega); simpa using this)]
    rfl
theorem C65_take {w : World} {A : Option Addr} {L : List S65} {i : Nat} (h : Kd.C k65 w A L.length L) (hi : i ≤ L.length) : Kd.C k65 w A i (L.take i) := by
  have := Kd.C_take h hi
  rwa [List.length_take, Nat.min_eq_left hi] at this
theorem C65_drop {w : World} {A : Option Addr} {L : List S65} {i c : Nat} (h : Kd.C k65 w A L.length L) (hi : i ≤ L.length) (hc : L.length ≤ c) : Kd.C k65 w (if c = i then A else A.map (·.add (i * 10))) (L.length - i) (L.drop i) := by
  have := Kd.C_drop h hi hc
  rwa [List.length_drop] at this
def RPutP (W : World) (g : Nat) (fp : List Nat) (L' : List S65) (e : Ending) (W' : World) : Prop := e = .returned (.tuple #[]) ∧ (∃ fp', RT W' g L' fp' ∧ ∀ y ∈ fp', y ∈ fp ∨ W.heap.size ≤ y) ∧ Mod W W' fp
set_option maxHeartbeats 4000000 in
set_option maxRecDepth 100000 in
theorem rput_calls {W : World} {g : Nat} {L : List S65} {fp : List Nat} (x : S65) (h : RT W g L fp) (hl : L.length ≤ 1000000) {L' : List S65} (hL' : iput x L = L') :
    Calls Try.prog 72 #[.pointer (some ⟨g, 0, none⟩), .agg #[.int .u32 x.f0.f0, .int .u32 x.f0.f1, .int .u64 x.f1.f0, .int .u32 x.f1.f1, .int .u64 x.f2.f0, .int .u32 x.f2.f1, .string x.f3, .string x.f4.f0, .string x.f4.f1, .bool x.f4.f2]] W (RPutP W g fp L') := by
  have m1 := ((Mod.refl W []).alloc (.cells #[.int .u32 x.f0.f0, .int .u32 x.f0.f1, .int .u64 x.f1.f0, .int .u32 x.f1.f1, .int .u64 x.f2.f0, .int .u32 x.f2.f1, .string x.f3, .string x.f4.f0, .string x.f4.f1, .bool x.f4.f2] 65))
  have n1 : IB (W.alloc (.cells #[.int .u32 x.f0.f0, .int .u32 x.f0.f1, .int .u64 x.f1.f0, .int .u32 x.f1.f1, .int .u64 x.f2.f0, .int .u32 x.f2.f1, .string x.f3, .string x.f4.f0, .string x.f4.f1, .bool x.f4.f2] 65)) W.heap.size x := blk_new W _
  have H1 := Lib.hid (And.intro (h.mod0 m1) (And.intro n1 m1))
  have HY := Lib.hid hL'
  clear m1 n1 h hL'
  go_enter Try.func72, Try.ntmps72
  go_upto_region 1 with fail
  generalize W.alloc _ = W1 at *
  generalize hg : W.heap.size = q at *
  obtain ⟨vb, hbx, hrow, hng, hfp⟩ := H1.out.1
  obtain ⟨A, k, rfl, hk, hC⟩ := hrow.C
  have HC := Lib.hid (And.intro hC (And.intro hbx (And.intro hng (And.intro hfp hk))))
  have HG := Lib.hid hg
  clear hC hg hbx hrow hng hfp
  go_upto_block 0 with fail
  go_cut [4] from 6 to 29 (fun s4 wr => ∃ i : Nat, s4 = .int .i64 i ∧ i ≤ L.length ∧ L.take i ++ x :: L.drop i = L' ∧ Mod W1 wr [])
  case' first =>
    go_wp2_with fail
    go_loopg [4] L.length (fun kk i wr => ∃ (j : Nat), j ≤ L.length ∧ kk = L.length - j ∧ i = .int .i64 j ∧ (∀ m (hm : m < L.length), m < j → Tree.lt L[m].f4.f0 x.f4.f0 = true) ∧ Mod W1 wr [])
    case atStart => exact ⟨0, Nat.zero_le _, rfl, rfl, fun m _ hm => by omega, Mod.refl _ _⟩
    case round =>
      obtain ⟨j, hj, rfl, rfl, hlo, hM⟩ := hrel
      have HL := Lib.hid (And.intro hlo hM)
      have c0 : wr.cell? ⟨g, 0, none⟩ = some (.slice A L.length k) := cellM ((blk_cell HC.out.2.1 0).trans rfl) hM
      obtain ⟨x0, x1, x2, x3, x4, x5, x6, x7, x8, x9⟩ := (H1.out.2.1.mod hM (by simp)).all
      clear x0 x1 x2 x3 x4 x5 x6 x8 x9
      have hCw := Kd.C_below HC.out.1 hM.bel
      clear hlo hM
      by_cases hjl : j < L.length
      · have hjz : (j : Int) < (L.length : Int) := by omega
        have hw : IntKind.i64.wrap ((j : Int) + 1) = ((j + 1 : Nat) : Int) := by rw [i64w (by omega) (by omega)]; omega
        obtain ⟨ad, rfl, a0, a1, a2, a3, a4, a5, a6, a7, a8, a9⟩ := it_cells hCw j hjl
        clear a0 a1 a2 a3 a4 a5 a6 a8 a9 hCw
        obtain ⟨ky, hky⟩ : ∃ ky, L[j].f4.f0 = ky := ⟨_, rfl⟩
        rw [hky] at a7
        have HK := Lib.hid hky
        clear hky
        cases hlt : Tree.lt ky x.f4.f0
        · have e1 : Op.bytesLess ky.toList x.f4.f0.toList = false := hlt
          have HE := Lib.hid (HY.out ▸ (iput_at hj HL.out.1 (fun h => by rw [HK.out]; exact hlt)).symm)
          clear hlt
          go_upto_region 2 with fail
          go_quiet (fail)
          go_wp2
          go_meet
          case rel => exact ⟨j, rfl, hj, HE.out, HL.out.2.drewN _⟩
        · have e1 : Op.bytesLess ky.toList x.f4.f0.toList = true := hlt
          have HE : Hid (∀ m (hm : m < L.length), m < j + 1 → Tree.lt L[m].f4.f0 x.f4.f0 = true) := Lib.hid fun m hm hmj => by
            by_cases e : m = j
            · subst e; rw [HK.out]; exact hlt
            · exact HL.out.1 m hm (by omega)
          clear hlt
          go_upto_region 2 with fail
          go_quiet (fail)
          go_wp2
          go_roundg (L.length - (j + 1))
          case measure => omega
          case rel => exact ⟨j + 1, by omega, rfl, by rw [show ((j + 1 : Nat) : Int) = (j : Int) + 1 by omega], HE.out, HL.out.2.drewN _⟩
      · obtain rfl : j = L.length := by omega
        have hjz : ¬ (L.length : Int) < (L.length : Int) := by omega
        have HE := Lib.hid (HY.out ▸ (iput_at (x := x) (Nat.le_refl _) HL.out.1 (fun h => absurd h (by omega))).symm)
        clear hCw
        go_upto_region 2 with fail
        go_quiet (fail)
        go_wp2
        go_meet
        case rel => exact ⟨L.length, rfl, Nat.le_refl _, HE.out, HL.out.2.drewN _⟩
  case rest =>
    obtain ⟨i, rfl, hi, hLq, hM⟩ := hcut
    have HL := Lib.hid (And.intro hLq hM)
    have hiz : (i : Int) ≤ (L.length : Int) := by omega
    have hg : wc.cell? ⟨g, 0, none⟩ = some (.slice A L.length k) := cellM ((blk_cell HC.out.2.1 0).trans rfl) hM
    have HCw := Lib.hid (Kd.C_below HC.out.1 hM.bel)
    have xb := H1.out.2.1.mod hM (by simp)
    have HX := Lib.hid xb
    clear hLq hM
    obtain ⟨c0, c1, c2, c3, c4, c5, c6, c7, c8, c9⟩ := xb.all
    clear xb
    go_wp2_with (first | (at_builtin; refine Kd.R_append_rows k65 (w0 := wc) (W := wc) 0 rfl _ _ 66 65 (.agg #[.int .u32 z65.f0.f0, .int .u32 z65.f0.f1, .int .u64 z65.f1.f0, .int .u32 z65.f1.f1, .int .u64 z65.f2.f0, .int .u32 z65.f2.f1, .string z65.f3, .string z65.f4.f0, .string z65.f4.f1, .bool z65.f4.f2]) 96 rfl Try.underlying66 info65 rfl (by decide) (by decide) (.slice none 0 0) [] (L.take i) A i k (fun b => wc.heap.size ≤ b) (fun _ => False) rfl rfl (Kd.R_nil _ _ _ _ _) (C65_take HCw.out hi) (fun x cs h => h) (fun k h => h.elim) (fun _ h => h) (Below.refl _ _) (Nat.zero_le _) (by simp; omega) ?_) | fail)
    intro v5 V5 o5 _ g5 _
    have o5 : k65.R 65 V5 0 (fun b => wc.heap.size ≤ b) v5 (L.take i) := o5
    have m5 : Mod wc V5 [] := (mod_own g5).mono (fun y hy => by cases hy)
    have hg5 := cellM hg m5
    have hb5 := HX.out.mod m5 (by simp)
    have H5 := Lib.hid (And.intro m5 o5)
    clear c0 c1 c2 c3 c4 c5 c6 c7 c8 c9 o5 m5 g5
    obtain ⟨c0, c1, c2, c3, c4, c5, c6, c7, c8, c9⟩ := hb5.all
    clear hb5
    go_wp2_with (first | (at_builtin; refine Kd.R_append k65 (w0 := V5) (W := V5) 0 rfl _ _ 66 65 (.agg #[.int .u32 z65.f0.f0, .int .u32 z65.f0.f1, .int .u64 z65.f1.f0, .int .u32 z65.f1.f1, .int .u64 z65.f2.f0, .int .u32 z65.f2.f1, .string z65.f3, .string z65.f4.f0, .string z65.f4.f1, .bool z65.f4.f2]) 96 rfl Try.underlying66 info65 rfl (by decide) (by decide) v5 (L.take i) x [.int .u32 x.f0.f0, .int .u32 x.f0.f1, .int .u64 x.f1.f0, .int .u32 x.f1.f1, .int .u64 x.f2.f0, .int .u32 x.f2.f1, .string x.f3, .string x.f4.f0, .string x.f4.f1, .bool x.f4.f2] (fun b => wc.heap.size ≤ b) (fun _ => False) rfl rfl (k65_mkM _ _ _ x) (fun k h => h.elim) (fun k h => Nat.le_trans H5.out.1.size h) H5.out.2 (Below.refl _ _) (Nat.zero_le _) (by rw [List.length_take]; omega) ?_) | fail)
    intro v6 V6 o6 _ g6 _
    have m6 : Mod wc V6 [] := H5.out.1.trans (mod_own g6) (fun y hy => .inr (H5.out.2.1 y (own_mem _ y hy)))
    have hg6 := cellM hg m6
    have H6 := Lib.hid (And.intro m6 o6)
    clear c0 c1 c2 c3 c4 c5 c6 c7 c8 c9 hg5 hg o6 m6 g6
    go_wp2_with (first | (at_builtin; (refine Kd.R_append_rows k65 (w0 := V6) (W := V6) 0 rfl _ _ 66 65 (.agg #[.int .u32 z65.f0.f0, .int .u32 z65.f0.f1, .int .u64 z65.f1.f0, .int .u32 z65.f1.f1, .int .u64 z65.f2.f0, .int .u32 z65.f2.f1, .string z65.f3, .string z65.f4.f0, .string z65.f4.f1, .bool z65.f4.f2]) 96 rfl Try.underlying66 info65 rfl (by decide) (by decide) v6 (L.take i ++ [x]) (L.drop i) _ _ _ (fun b => wc.heap.size ≤ b) (fun _ => False) rfl rfl H6.out.2 (C65_drop (Kd.C_below HCw.out (Mod.bel H6.out.1)) hi hk) (fun x cs h => h) (fun k h => h.elim) (fun k h => Nat.le_trans H6.out.1.size h) (Below.refl _ _) (Nat.zero_le _) (by rw [List.length_append, List.length_take]; simp; omega) ?_)) | fail)
    all_goals
      intro v7 V7 o7 _ g7 _
      have m7 : Mod wc V7 [] := H6.out.1.trans (mod_own g7) (fun y hy => .inr (H6.out.2.1 y (own_mem _ y hy)))
      have hfz := blk_frozen ((HL.out.2.trans m7 (by simp)).at_ HC.out.2.1 (by simp)) 0
      have hg7 : V7.cell? ⟨g, 0, none⟩ = some (.slice A L.length k) := cellM ((blk_cell HC.out.2.1 0).trans rfl) (HL.out.2.trans m7 (by simp))
      have e7 : L.take i ++ x :: L.drop i = L' := HL.out.1
      have o7 : k65.R 65 V7 0 (fun b => wc.heap.size ≤ b) v7 L' := by rw [← e7]; exact o7
      have H7 := Lib.hid (And.intro (HL.out.2.trans m7 (by simp)) o7)
      obtain ⟨A7, n7, c7, e7⟩ := Row.form (Row.of o7)
      subst e7
      clear o7 m7 g7 hg6 e7
      go_wp2
      go_end0
      have hput := BoxF.put plain65 HC.out.2.1 HC.out.2.2.1 (Row.of H7.out.2) (H7.out.1.mono (fun _ hk => by cases hk)) (fun y hy => .inr (Nat.le_trans HL.out.2.size (H7.out.2.1 y (own_mem _ y hy))))
      refine ⟨rfl, ⟨_, hput.1, fun y hy => ?_⟩, (H1.out.2.2.mono (fun _ hk => by cases hk)).trans hput.2.1 (fun k hk => .inl (by rw [HC.out.2.2.2.1]; exact hk))⟩
      rw [HC.out.2.2.2.1]
      exact (hput.2.2 y hy).imp id (fun h => Nat.le_trans H1.out.2.2.size h)
/-! the reference's Cut -/
attribute [local go_sem high] eqA32 eqA35
def RCutP (W : World) (g : Nat) (fp : List Nat) (ys L' : List S65) (e : Ending) (W' : World) : Prop := ∃ A k, e = .returned (.slice A ys.length k) ∧ (ys.length ≤ k ∧ Kd.C k65 W' A ys.length ys) ∧ (∃ fp', RT W' g L' fp' ∧ ∀ y ∈ fp', y ∈ fp ∨ W.heap.size ≤ y) ∧ Mod W W' fp
set_option maxHeartbeats 4000000 in
set_option maxRecDepth 100000 in
theorem rcut_calls {W : World} {g : Nat} {L : List S65} {fp : List Nat} (h : RT W g L fp) (hl : L.length ≤ 1000000) (c n : Int) {ys L' : List S65} (hys : byL L c n = ys) (hL' : offL L c n = L') :
    Calls Try.prog 36 #[.pointer (some ⟨g, 0, none⟩), .agg #[.int .u32 c, .int .u32 n]] W (RCutP W g fp ys L') := by
  have m1 := ((Mod.refl W []).alloc (.cells #[.int .u32 c, .int .u32 n] 32))
  have n1 : NB (W.alloc (.cells #[.int .u32 c, .int .u32 n] 32)) W.heap.size ⟨c, n⟩ := blk_new W _
  have H1 := Lib.hid (And.intro (h.mod0 m1) (And.intro n1 (And.intro m1 h.lt)))
  have HY := Lib.hid (And.intro hys hL')
  clear m1 n1 h hys hL'
  go_enter Try.func36, Try.ntmps36
  go_upto_region 1 with fail
  generalize W.alloc _ = W1 at *
  generalize hg : W.heap.size = q at *
  obtain ⟨b0, b1⟩ := H1.out.2.1.all
  simp only at b0 b1
  have HG := Lib.hid hg
  clear hg
  go_wp2_with fail
  refine (rby_calls H1.out.1 hl c n HY.out.1).mono ?_
  rintro e W2 ⟨A, k, rfl, hR, m2⟩
  have H2 := Lib.hid (And.intro (H1.out.1.mod0 m2) (And.intro (H1.out.2.1.mod m2 (by simp)) (And.intro m2 hR)))
  clear m2 hR b0 b1
  obtain ⟨vb, hbx, hrow, hng, hfp⟩ := H2.out.1
  obtain ⟨A0, k0, rfl, hk, hC⟩ := hrow.C
  have c0 : W2.cell? ⟨g, 0, none⟩ = some (.slice A0 L.length k0) := (blk_cell hbx 0).trans rfl
  have HC := Lib.hid (And.intro hC (And.intro c0 (And.intro hbx (And.intro hng hfp))))
  clear hC hbx hng hfp hrow c0
  go_wp2_with fail
  go_loopg [6, 7] L.length (fun k lv i wr => ∃ j : Nat, j ≤ L.length ∧ k = L.length - j ∧ i = .int .i64 j ∧ k65.R 65 wr 0 (fun b => W2.heap.size ≤ b) lv ((L.take j).filter (fun x => !isBy c n x)) ∧ Mod W2 wr [])
  case atStart => exact ⟨0, Nat.zero_le _, rfl, rfl, Kd.R_nil _ _ _ _ _, Mod.refl _ _⟩
  case round =>
    obtain ⟨j, hj, rfl, rfl, hR, hM⟩ := hrel
    obtain ⟨B, d, rfl, hd, hC⟩ := Kd.R_reads hR
    have c0 := cellM HC.out.2.1 hM
    obtain ⟨n0, n1⟩ := (H2.out.2.1.mod hM (by simp)).all
    by_cases hjl : j < L.length
    · have hjz : (j : Int) < (L.length : Int) := by omega
      have hw : IntKind.i64.wrap ((j : Int) + 1) = ((j + 1 : Nat) : Int) := by rw [i64w (by omega) (by omega)]; omega
      obtain ⟨ad, rfl, a0, a1, a2, a3, a4, a5, a6, a7, a8, a9⟩ := it_cells (Kd.C_below HC.out.1 hM.bel) j hjl
      have hnx := take_filter (p := fun x => !isBy c n x) hjl
      have hacc := take_filter_len (p := fun x => !isBy c n x) L j
      obtain ⟨y, hy⟩ : ∃ y, L[j] = y := ⟨_, rfl⟩
      rw [hy] at a0 a1 a2 a3 a4 a5 a6 a7 a8 a9 hnx
      clear hy hC
      obtain ⟨b, hb⟩ : ∃ b, isBy c n y = b := ⟨_, rfl⟩
      have hb2 : (y.f0.f0 == c && (y.f0.f1 == n)) = b := by rw [← hb]; unfold isBy; rw [Bool.eq_iff_iff]; simp
      rw [hb] at hnx
      have HJ := Lib.hid (And.intro hR (And.intro hM hnx))
      clear hR hM hnx hb
      generalize (L.take j).filter (fun x => !isBy c n x) = acc at *
      go_upto_region 6 with fail
      go_quiet (fail)
      generalize hW4 : wr.drewN _ = W4 at *
      have m4 : Mod wr W4 [] := by rw [← hW4]; exact (Mod.refl wr []).drewN _
      have H4 := Lib.hid (And.intro (R_mod HJ.out.1 m4) (And.intro (HJ.out.2.1.trans m4 (fun _ hk => by cases hk)) HJ.out.2.2))
      have c4 := cellM c0 m4
      have cm : ∀ {p : Addr} {v : Value}, wr.cell? p = some v → W4.cell? p = some v := fun {p v} hp => m4.cellA hp (by simp)
      have a0 := cm a0
      have a1 := cm a1
      have a2 := cm a2
      have a3 := cm a3
      have a4 := cm a4
      have a5 := cm a5
      have a6 := cm a6
      have a7 := cm a7
      have a8 := cm a8
      have a9 := cm a9
      clear hW4 m4 HJ c0 cm
      cases b
      · go_wp2_with (first | (at_builtin; refine Kd.R_append k65 (w0 := W4) (W := W4) 0 rfl _ _ 66 65 (.agg #[.int .u32 z65.f0.f0, .int .u32 z65.f0.f1, .int .u64 z65.f1.f0, .int .u32 z65.f1.f1, .int .u64 z65.f2.f0, .int .u32 z65.f2.f1, .string z65.f3, .string z65.f4.f0, .string z65.f4.f1, .bool z65.f4.f2]) 96 rfl Try.underlying66 info65 rfl (by decide) (by decide) (.slice B acc.length d) acc y [.int .u32 y.f0.f0, .int .u32 y.f0.f1, .int .u64 y.f1.f0, .int .u32 y.f1.f1, .int .u64 y.f2.f0, .int .u32 y.f2.f1, .string y.f3, .string y.f4.f0, .string y.f4.f1, .bool y.f4.f2] (fun b => W2.heap.size ≤ b) (fun _ => False) rfl rfl (k65_mkM _ _ _ y) (fun k h => h.elim) (fun k h => Nat.le_trans H4.out.2.1.size h) H4.out.1 (Below.refl _ _) (Nat.zero_le _) (by omega) ?_) | fail)
        intro v9 W9 o9 _ g9 _
        have m9 : Mod W2 W9 [] := H4.out.2.1.trans (mod_own g9) (fun z hz => .inr (H4.out.1.1 z (own_mem _ z hz)))
        have H9 := Lib.hid (And.intro o9 m9)
        clear o9 g9 m9
        go_wp2
        go_roundg (L.length - (j + 1))
        case measure => omega
        case rel => exact ⟨j + 1, by omega, rfl, by rw [show ((j + 1 : Nat) : Int) = (j : Int) + 1 by omega], by rw [H4.out.2.2]; (first | rw [if_pos rfl] | rw [if_pos trivial] | rw [if_pos (by simp)]); exact H9.out.1, H9.out.2⟩
      · go_wp2
        go_roundg (L.length - (j + 1))
        case measure => omega
        case rel => exact ⟨j + 1, by omega, rfl, by rw [show ((j + 1 : Nat) : Int) = (j : Int) + 1 by omega], by rw [H4.out.2.2, if_neg (by simp)]; exact H4.out.1, H4.out.2.1⟩
    · obtain rfl : j = L.length := by omega
      have hjz : ¬ (L.length : Int) < (L.length : Int) := by omega
      rw [List.take_length] at hR hd hC ⊢
      have e : L.filter (fun x => !isBy c n x) = L' := HY.out.2
      rw [e] at hR hd hC ⊢
      have HJ := Lib.hid (And.intro hR hM)
      have hfz := blk_frozen (hM.at_ HC.out.2.2.1 (by simp)) 0
      have hbl : ∀ y ∈ ownList (.slice A ys.length k), W.heap.size ≤ y ∧ y ∉ ([] : List Nat) := fun y hy => ⟨Nat.le_trans H1.out.2.2.1.size (H2.out.2.2.2.1 y (own_mem _ y hy)), by simp⟩
      clear hR hd hC hM e
      go_wp2
      go_ret
      have hput := BoxF.put plain65 HC.out.2.2.1 HC.out.2.2.2.1 (Row.of HJ.out.1) (HJ.out.2.mono (fun _ hk => by cases hk)) (fun y hy => .inr (HJ.out.1.1 y (own_mem _ y hy)))
      have hs := Nat.le_trans H1.out.2.2.1.size H2.out.2.2.1.size
      have hfp := HC.out.2.2.2.2
      have hgw : g < W.heap.size := by rw [HG.out]; exact H1.out.2.2.2 g (by rw [hfp]; simp)
      obtain ⟨A3, k3, e3, r1, r2⟩ := (Row.mod (fp := [g]) plain65 (Row.of H2.out.2.2.2) ((HJ.out.2.mono (fun _ hk => by cases hk)).setCell (p := ⟨g, 0, none⟩) (.inl (by simp)) _) (fun y hy hm => by have := (hbl y hy).1; simp at hm; omega)).C
      injection e3 with ea eb ec
      subst ea ec
      refine ⟨A, k, rfl, ⟨r1, r2⟩, ⟨_, hput.1, fun y hy => ?_⟩, ((H1.out.2.2.1.trans H2.out.2.2.1 (by simp)).mono (fun _ hk => by cases hk)).trans hput.2.1 (fun k hk => .inl (by rw [hfp]; exact hk))⟩
      rw [hfp]
      exact (hput.2.2 y hy).imp id (fun h => Nat.le_trans hs h)
/-! the reference's Raise -/
attribute [local go_sem high] eqA32 eqA35
theorem rright1_calls (p l : Int) (w : World) : Calls Try.prog 44 #[.agg #[.int .u64 p, .int .u32 l]] w fun e w' => e = .returned (.bool (rightB p l)) ∧ Mod w w' [] :=
  (dovecoteref01_Right.calls p l _ w (by
    unfold dovecoteref01_Right.f rightB
    by_cases h : p ≤ 281474976710656 <;> simp [h])).mono fun e w' ⟨h1, h2⟩ => ⟨h1, Mod.of_below h2⟩
theorem rless_f (a b c d : Int) : dovecoteref01_Less.f a b c d = some (lessB a b c d) := by
  unfold dovecoteref01_Less.f lessB
  by_cases h1 : a < c
  · simp [h1]
  · by_cases h2 : a = c <;> simp [h1, h2]
theorem rless_calls (a b c d : Int) (w : World) : Calls Try.prog 51 #[.agg #[.int .u64 a, .int .u32 b], .agg #[.int .u64 c, .int .u32 d]] w fun e w' => e = .returned (.bool (lessB a b c d)) ∧ Mod w w' [] :=
  (dovecoteref01_Less.calls a b c d _ w (rless_f a b c d)).mono fun e w' ⟨h1, h2⟩ => ⟨h1, Mod.of_below h2⟩
def mxR (a b : S35) : S35 := if lessB a.f0 a.f1 b.f0 b.f1 = true then b else a
theorem rmax_calls (a b : S35) (w : World) : Calls Try.prog 73 #[.agg #[.int .u64 a.f0, .int .u32 a.f1], .agg #[.int .u64 b.f0, .int .u32 b.f1]] w fun e w' => e = .returned (.agg #[.int .u64 (mxR a b).f0, .int .u32 (mxR a b).f1]) ∧ Mod w w' [] :=
  (dovecoteref01_Max.calls a.f0 a.f1 b.f0 b.f1 (mxR a b).f0 (mxR a b).f1 w (by
    unfold dovecoteref01_Max.f mxR
    rw [rless_f, Option.bind_some]
    cases lessB a.f0 a.f1 b.f0 b.f1 <;> rfl)).mono fun e w' ⟨h1, h2⟩ => ⟨h1, Mod.of_below h2⟩
def rr1 (c n : Int) (s : S35) (x : S65) : S65 := if isBy c n x = true then { x with f2 := mxR x.f2 s } else x
def raiseR (L : List S65) (c n : Int) (s : S35) : List S65 := L.map (rr1 c n s)
def raiseK (L : List S65) (c n : Int) (s : S35) (j : Nat) : List S65 := (L.take j).map (rr1 c n s) ++ L.drop j
theorem raiseK_len (L : List S65) (c n : Int) (s : S35) {j : Nat} (h : j ≤ L.length) : (raiseK L c n s j).length = L.length := by
  unfold raiseK; simp; omega
theorem raiseK_get (L : List S65) (c n : Int) (s : S35) {j : Nat} (h : j < L.length) (h' : j < (raiseK L c n s j).length) : (raiseK L c n s j)[j] = L[j] := by
  have e : (raiseK L c n s j)[j]? = some L[j] := by unfold raiseK; rw [List.getElem?_append_right (by simp; omega)]; simp [Nat.min_eq_left (Nat.le_of_lt h)]
  rw [List.getElem?_eq_getElem h'] at e
  exact Option.some.inj e
theorem set_mid (a b : List S65) (x : S65) {j : Nat} (h : a.length = j) : (a ++ b).set j x = a ++ b.set 0 x := by subst h; simp
theorem raiseK_next (L : List S65) (c n : Int) (s : S35) {j : Nat} (h : j < L.length) : raiseK L c n s (j + 1) = (raiseK L c n s j).set j (rr1 c n s L[j]) := by
  unfold raiseK
  rw [set_mid _ _ _ (by simp; omega), List.take_succ_eq_append_getElem h, List.drop_eq_getElem_cons h, List.map_append, List.append_assoc]
  rfl
theorem raiseK_zero (L : List S65) (c n : Int) (s : S35) : raiseK L c n s 0 = L := rfl
theorem raiseK_all (L : List S65) (c n : Int) (s : S35) : raiseK L c n s L.length = raiseR L c n s := by unfold raiseK raiseR; simp
/-- an intent's cells in the reference's row, and what a write of its least stamp leaves -/
theorem RT.at_ {W : World} {g : Nat} {L : List S65} {fp : List Nat} (h : RT W g L fp) (i : Nat) (hi : i < L.length) : ∃ gb cap, W.cell? ⟨g, 0, none⟩ = some (.slice (some ⟨gb, 0, none⟩) L.length cap) ∧
    (W.cell? ⟨gb, i * 10, none⟩ = some (.int .u32 L[i].f0.f0) ∧ W.cell? ⟨gb, i * 10 + 1, none⟩ = some (.int .u32 L[i].f0.f1) ∧ W.cell? ⟨gb, i * 10 + 2, none⟩ = some (.int .u64 L[i].f2.f0) ∨ True) ∧
    W.cell? ⟨gb, i * 10, none⟩ = some (.int .u32 L[i].f0.f0) ∧ W.cell? ⟨gb, i * 10 + 1, none⟩ = some (.int .u32 L[i].f0.f1) ∧ W.cell? ⟨gb, i * 10 + 4, none⟩ = some (.int .u64 L[i].f2.f0) ∧ W.cell? ⟨gb, i * 10 + 5, none⟩ = some (.int .u32 L[i].f2.f1) ∧
    (∀ j, W.frozen? ⟨gb, i * 10 + j, none⟩ = false) ∧ ∀ s : S35, RT ((W.setCell ⟨gb, i * 10 + 4, none⟩ (.int .u64 s.f0)).setCell ⟨gb, i * 10 + 5, none⟩ (.int .u32 s.f1)) g (L.set i { L[i] with f2 := s }) fp ∧ Mod W ((W.setCell ⟨gb, i * 10 + 4, none⟩ (.int .u64 s.f0)).setCell ⟨gb, i * 10 + 5, none⟩ (.int .u32 s.f1)) fp := by
  obtain ⟨v, h1, h2, h3, rfl⟩ := h
  obtain ⟨gb, cap, rfl, _, hlt, hb⟩ := Kd.R_form h2 (by omega)
  obtain ⟨c, hcl, hM, hcc, hfr⟩ := Kd.R_elem h2 z65 (i : Int) (by omega) (by omega)
  rw [Int.toNat_natCast, List.getD_eq_getElem?_getD, List.getElem?_eq_getElem hi, Option.getD_some] at hM
  have hc := k65_openM hM
  subst hc
  rw [Int.toNat_natCast] at hcc hfr
  have hne : g ≠ gb := fun e => h3 (by subst e; simp [ownList])
  refine ⟨gb, cap, (blk_cell h1 0).trans rfl, .inr trivial, hcc 0 _ rfl, hcc 1 _ rfl, hcc 4 _ rfl, hcc 5 _ rfl, hfr, fun s => ?_⟩
  have hs := Kd.R_seg h2 (i : Int) (by omega) (by omega) (seg := [.int .u64 s.f0, .int .u32 s.f1]) (j := 4) (x' := { L[i] with f2 := s }) (okp := fun _ => False) rfl (by rw [Int.toNat_natCast]; exact hcc) (by show 4 + 2 ≤ 10; omega) (k65_mkM W 0 _ { L[i] with f2 := s }) (fun _ hk => hk.elim)
  rw [Int.toNat_natCast] at hs
  have hs1 : Row k65 65 ((W.setCell ⟨gb, i * 10 + 4, none⟩ (.int .u64 s.f0)).setCell ⟨gb, i * 10 + 5, none⟩ (.int .u32 s.f1)) (.slice (some ⟨gb, 0, none⟩) L.length cap) (L.set i { L[i] with f2 := s }) := hs.1
  have hm : Mod W ((W.setCell ⟨gb, i * 10 + 4, none⟩ (.int .u64 s.f0)).setCell ⟨gb, i * 10 + 5, none⟩ (.int .u32 s.f1)) [gb] := ((Mod.refl W [gb]).setCell (p := ⟨gb, i * 10 + 4, none⟩) (.inl (by simp)) _).setCell (p := ⟨gb, i * 10 + 5, none⟩) (.inl (by simp)) _
  exact ⟨⟨.slice (some ⟨gb, 0, none⟩) L.length cap, hm.at_ h1 (by simpa using hne), hs1, h3, rfl⟩, hm.mono (fun k hk => .inl (by simp at hk; subst hk; simp [ownList]))⟩
def RRaiseP (W : World) (g : Nat) (fp : List Nat) (r : Bool) (L' : List S65) (e : Ending) (W' : World) : Prop := e = .returned (.bool r) ∧ RT W' g L' fp ∧ Mod W W' fp
structure Rz (W V : World) (g q q2 : Nat) (L : List S65) (fp : List Nat) (c n : Int) (s : S35) : Prop where
  hT : RT V g L fp
  hN : NB V q ⟨c, n⟩
  hS : SB V q2 s
  hM : Mod W V fp
  hq : q ∉ fp ∧ q2 ∉ fp
theorem Rz.mod {W V V' : World} {g q q2 : Nat} {L : List S65} {fp : List Nat} {c n : Int} {s : S35} (h : Rz W V g q q2 L fp c n s) (m : Mod V V' []) : Rz W V' g q q2 L fp c n s :=
  ⟨h.hT.mod0 m, h.hN.mod m (by simp), h.hS.mod m (by simp), h.hM.trans m (fun _ hk => by cases hk), h.hq⟩
theorem Rz.put {W V V' : World} {g q q2 : Nat} {L L' : List S65} {fp : List Nat} {c n : Int} {s : S35} (h : Rz W V g q q2 L fp c n s) (hT : RT V' g L' fp) (m : Mod V V' fp) : Rz W V' g q q2 L' fp c n s :=
  ⟨hT, h.hN.mod m h.hq.1, h.hS.mod m h.hq.2, h.hM.trans m (fun k hk => .inl hk), h.hq⟩
theorem Rz.made {W : World} {g : Nat} {L : List S65} {fp : List Nat} (h : RT W g L fp) (c n : Int) (s : S35) : Rz W ((W.alloc (.cells #[.int .u32 c, .int .u32 n] 32)).alloc (.cells #[.int .u64 s.f0, .int .u32 s.f1] 35)) g W.heap.size (W.heap.size + 1) L fp c n s := by
  have m1 := ((Mod.refl W []).alloc (.cells #[.int .u32 c, .int .u32 n] 32))
  have m2 := ((Mod.refl (W.alloc (.cells #[.int .u32 c, .int .u32 n] 32)) []).alloc (.cells #[.int .u64 s.f0, .int .u32 s.f1] 35))
  have s1 : (W.alloc (.cells #[.int .u32 c, .int .u32 n] 32)).heap.size = W.heap.size + 1 := by simp
  have b2 : SB ((W.alloc (.cells #[.int .u32 c, .int .u32 n] 32)).alloc (.cells #[.int .u64 s.f0, .int .u32 s.f1] 35)) (W.heap.size + 1) s := s1 ▸ blk_new _ _
  have b1 : NB (W.alloc (.cells #[.int .u32 c, .int .u32 n] 32)) W.heap.size ⟨c, n⟩ := blk_new W _
  exact ⟨h.mod0 (m1.trans m2 (by simp)), b1.mod m2 (by simp), b2, (m1.trans m2 (by simp)).mono (by simp), fun hm => by have := h.lt _ hm; omega, fun hm => by have := h.lt _ hm; omega⟩
set_option maxHeartbeats 4000000 in
set_option maxRecDepth 100000 in
theorem rraise_calls {W : World} {g : Nat} {L : List S65} {fp : List Nat} (h : RT W g L fp) (hl : L.length ≤ 1000000) (c n : Int) (s : S35) {r : Bool} {L' : List S65} (hr : (decide (byL L c n ≠ []) && rightB s.f0 s.f1) = r) (hL : (if r = true then raiseR L c n s else L) = L') :
    Calls Try.prog 37 #[.pointer (some ⟨g, 0, none⟩), .agg #[.int .u32 c, .int .u32 n], .agg #[.int .u64 s.f0, .int .u32 s.f1]] W (RRaiseP W g fp r L') := by
  have H1 := Lib.hid (Rz.made h c n s)
  have HR := Lib.hid (And.intro hr hL)
  clear h hr hL
  go_enter Try.func37, Try.ntmps37
  go_upto_region 1 with fail
  generalize (W.alloc _).alloc _ = W1 at *
  generalize hg : W.heap.size = q at *
  have HG := Lib.hid hg
  clear hg
  obtain ⟨b0, b1⟩ := H1.out.hN.all
  simp only at b0 b1
  go_wp2_with fail
  obtain ⟨ys, hys⟩ : ∃ ys, byL L c n = ys := ⟨_, rfl⟩
  have HY := Lib.hid hys
  clear hys
  refine (rby_calls H1.out.hT hl c n HY.out).mono ?_
  rintro e W2 ⟨A, k, rfl, -, m2⟩
  have H2 := Lib.hid (H1.out.mod m2)
  clear m2 b0 b1 H1
  obtain ⟨s0, s1⟩ := H2.out.hS.all
  cases ys with
  | nil =>
    have e : false = r ∧ L = L' := by
      have h := HR.out
      rw [HY.out, decide_eq_false (by simp), Bool.false_and] at h
      obtain ⟨rfl, h⟩ := h
      rw [if_neg (by simp)] at h
      exact ⟨rfl, h⟩
    have HE := Lib.hid e
    clear e
    go_wp2
    go_ret
    obtain ⟨rfl, rfl⟩ := HE.out
    exact ⟨rfl, H2.out.hT, H2.out.hM⟩
  | cons y0 yr =>
    have hne : (((y0 :: yr).length : Int) == 0) = false := by simp; omega
    obtain ⟨r1, h1⟩ : ∃ r1, rightB s.f0 s.f1 = r1 := ⟨_, rfl⟩
    have e : r1 = r ∧ (if r1 = true then raiseR L c n s else L) = L' := by
      have h := HR.out
      rw [HY.out, decide_eq_true (by simp), Bool.true_and, h1] at h
      obtain ⟨rfl, h⟩ := h
      exact ⟨rfl, h⟩
    have HE := Lib.hid (And.intro h1 e)
    clear e h1
    generalize (y0 :: yr).length = yl at *
    go_wp2_with fail
    refine (rright1_calls _ _ _).mono ?_
    rw [HE.out.1]
    rintro e W3 ⟨rfl, m3⟩
    have H3 := Lib.hid (H2.out.mod m3)
    clear m3 H2 s0 s1
    cases r1
    · go_wp2
      go_ret
      obtain ⟨-, rfl, h⟩ := HE.out
      rw [if_neg (by simp)] at h
      subst h
      exact ⟨rfl, H3.out.hT, H3.out.hM⟩
    · go_wp2_with fail
      go_loopg [7] L.length (fun kk i wr => ∃ (j : Nat), j ≤ L.length ∧ kk = L.length - j ∧ i = .int .i64 j ∧ Rz W wr g q (q + 1) (raiseK L c n s j) fp c n s)
      case atStart => exact ⟨0, Nat.zero_le _, rfl, rfl, H3.out⟩
      case round =>
        obtain ⟨j, hj, rfl, rfl, hz⟩ := hrel
        have hlen := raiseK_len L c n s hj
        obtain ⟨b0, b1⟩ := hz.hN.all
        obtain ⟨s0, s1⟩ := hz.hS.all
        simp only at b0 b1
        by_cases hjl : j < L.length
        · have hjz : (j : Int) < (L.length : Int) := by omega
          have hw : IntKind.i64.wrap ((j : Int) + 1) = ((j + 1 : Nat) : Int) := by rw [i64w (by omega) (by omega)]; omega
          obtain ⟨gb, cap, c0, -, a0, a1, a2, a3, hfz, hset⟩ := hz.hT.at_ j (by omega)
          have hget := raiseK_get L c n s hjl (by omega)
          have hnx := raiseK_next L c n s hjl
          rw [hget] at a0 a1 a2 a3 hset
          rw [hlen] at c0
          obtain ⟨y, hy⟩ : ∃ y, L[j] = y := ⟨_, rfl⟩
          rw [hy] at a0 a1 a2 a3 hset hnx
          have HYL := Lib.hid hy
          obtain ⟨b, hb⟩ : ∃ b, isBy c n y = b := ⟨_, rfl⟩
          have hb2 : (y.f0.f0 == c && (y.f0.f1 == n)) = b := by rw [← hb]; unfold isBy; rw [Bool.eq_iff_iff]; simp
          have hx : rr1 c n s y = if b = true then { y with f2 := mxR y.f2 s } else y := by unfold rr1; rw [hb]
          rw [hx] at hnx
          have HJ := Lib.hid (And.intro hz (And.intro hnx hget))
          clear hz hnx hget hy hb hx hset hfz
          cases b
          · have HE : Hid (raiseK L c n s (j + 1) = raiseK L c n s j) := Lib.hid (by
              have h := HJ.out.2.1
              rw [if_neg (by simp)] at h
              rw [h, ← HYL.out, ← HJ.out.2.2]
              exact List.set_getElem_self _)
            go_upto_region 6 with fail
            go_quiet (fail)
            go_wp2
            go_roundg (L.length - (j + 1))
            case measure => omega
            case rel => exact ⟨j + 1, by omega, rfl, by rw [show ((j + 1 : Nat) : Int) = (j : Int) + 1 by omega], by rw [HE.out]; exact HJ.out.1.mod ((Mod.refl _ []).drewN _)⟩
          · go_upto_region 6 with fail
            go_quiet (fail)
            go_upto_region 7 with fail
            generalize hW4 : wr.drewN _ = W4 at *
            have m4 : Mod wr W4 [] := by rw [← hW4]; exact (Mod.refl wr []).drewN _
            have H4 := Lib.hid (HJ.out.1.mod m4)
            have HE : Hid (raiseK L c n s (j + 1) = (raiseK L c n s j).set j { y with f2 := mxR y.f2 s }) := Lib.hid (by rw [HJ.out.2.1, if_pos rfl])
            have HG2 := Lib.hid HJ.out.2.2
            clear hW4 m4 HJ c0 a0 a1 a2 a3 s0 s1 b0 b1
            obtain ⟨gb, cap, c0, -, a0, a1, a2, a3, -, -⟩ := H4.out.hT.at_ j (by omega)
            rw [HG2.out, HYL.out] at a0 a1 a2 a3
            rw [hlen] at c0
            obtain ⟨s0, s1⟩ := H4.out.hS.all
            go_region_with (first
              | (go_at_call 73
                 (
                   refine Calls.mono (rmax_calls y.f2 s _) ?_
                   rintro e V6 ⟨rfl, m6⟩
                   have n6 : Mod W4 V6 [] := by
                     refine Mod.trans ?_ m6 (fun _ hk => by cases hk)
                     (with_reducible repeat (first | exact Mod.refl _ _ | refine Mod.alloc ?_ _ | refine Mod.drewN ?_ _ | refine Mod.drew ?_))
                   have H6 := Lib.hid (H4.out.mod n6)
                   have c6 := cellM c0 n6
                   have e2 : V6.cell? ⟨gb, j * 10 + 4, none⟩ = some (.int .u64 y.f2.f0) := n6.cellN a2 (by simp)
                   have e3 : V6.cell? ⟨gb, j * 10 + 5, none⟩ = some (.int .u32 y.f2.f1) := n6.cellN a3 (by simp)
                   have hh6 : Hid (∀ z : S35, RT ((V6.setCell ⟨gb, j * 10 + 4, none⟩ (.int .u64 z.f0)).setCell ⟨gb, j * 10 + 5, none⟩ (.int .u32 z.f1)) g ((raiseK L c n s j).set j { y with f2 := z }) fp ∧ Mod V6 ((V6.setCell ⟨gb, j * 10 + 4, none⟩ (.int .u64 z.f0)).setCell ⟨gb, j * 10 + 5, none⟩ (.int .u32 z.f1)) fp) := Lib.hid (by
                     obtain ⟨gb', cap', c', -, -, -, -, -, f', h'⟩ := H6.out.hT.at_ j (by omega)
                     rw [c6, hlen] at c'
                     injection c' with c'
                     injection c' with c'
                     injection c' with c'
                     injection c' with c'
                     subst c'
                     rw [HG2.out, HYL.out] at h'
                     exact h')
                   have fz : ∀ k, V6.frozen? ⟨gb, j * 10 + k, none⟩ = false := by
                     obtain ⟨gb', cap', c', -, -, -, -, -, f', -⟩ := H6.out.hT.at_ j (by omega)
                     rw [c6, hlen] at c'
                     injection c' with c'
                     injection c' with c'
                     injection c' with c'
                     injection c' with c'
                     subst c'
                     exact f'
                   have f4 := fz 4
                   have f5 := fz 5
                   clear c0 a0 a1 a2 a3 s0 s1 m6 n6 fz)))
            all_goals
              have hx := hh6.out (mxR y.f2 s)
              have HX := Lib.hid (H6.out.put hx.1 hx.2)
              clear hx
              go_wp2
              go_roundg (L.length - (j + 1))
              case measure => omega
              case rel => exact ⟨j + 1, by omega, rfl, by rw [show ((j + 1 : Nat) : Int) = (j : Int) + 1 by omega], by rw [HE.out]; exact HX.out⟩
        · obtain rfl : j = L.length := by omega
          have hjz : ¬ (L.length : Int) < (L.length : Int) := by omega
          obtain ⟨A0, k0, c0, -, -⟩ := hz.hT.get
          rw [hlen] at c0
          rw [raiseK_all] at hz
          have HJ := Lib.hid hz
          clear hz
          go_wp2
          go_ret
          obtain ⟨-, rfl, h⟩ := HE.out
          rw [if_pos trivial] at h
          subst h
          exact ⟨rfl, HJ.out.hT, HJ.out.hM⟩
end Go.Proofs.Ytdelbidaclddgaa.Lat
