/- The layer 'latch': LatD; a seat's own text, no law of its own. -/
import Derived.Test.YtdelbidaclddgaaLatC
import Derived.Deep.LoopGhost
import Derived.Deep.Cut
import Derived.Lib.Hide
import Derived.StillTailTactics
import Derived.Deep.QuietTactic
import Derived.BigQuiet
import Derived.Outline
import Derived.Deep.RegionWith
import Derived.Deep.RegionHeld3
import Derived.WalkLawsBesides
namespace Go.Proofs.Ytdelbidaclddgaa.Lat
open Go.RowKit Go.Proofs.YtdelbidaclddgaaW.PrintWords Go.Proofs.Ytdelbidaclddgaa.MLatchRuns Go.Proofs.YtdelbidaclddgaaW.PrintLast
set_option linter.unusedVariables false
set_option linter.unusedSimpArgs false
/-! All, First -/
theorem Mod.cellN {W W' : World} {fp : List Nat} (m : Mod W W' fp) {b o : Nat} {v : Value} (h : W.cell? ⟨b, o, none⟩ = some v) (hb : b ∉ fp) : W'.cell? ⟨b, o, none⟩ = some v := by
  have e := m.block b (World.block_lt_of_cell? _ _ h) hb
  unfold World.cell? at h ⊢
  rw [e]
  exact h
theorem Mod.cellA {W W' : World} {fp : List Nat} (m : Mod W W' fp) {p : Addr} {v : Value} (h : W.cell? p = some v) (hb : p.block ∉ fp) : W'.cell? p = some v := (World.cell?_of_block (w := W) (m.block p.block (World.block_lt_of_cell? _ _ h) hb)).trans h
theorem R_mod {α : Type} {d : Kd α} {e : Nat} {W W' : World} {ok : Nat → Prop} {v : Value} {l : List α} (h : d.R e W 0 ok v l) (m : Mod W W' []) : d.R e W' 0 ok v l := Kd.R_below h (Mod.bel m)
theorem keys_row {W : World} {v : Value} {xs : List ByteArray} (h : W.ownsRow 0 9 1 v xs.length (pw_strs xs)) : ∃ A c, v = .slice A xs.length c ∧ ∀ i (hi : i < xs.length), ∃ g, A = some ⟨g, 0, none⟩ ∧ W.cell? ⟨g, i, none⟩ = some (.string xs[i]) := by
  by_cases hn : 0 < xs.length
  · obtain ⟨g, c, hv, hc⟩ := own_cells h hn
    exact ⟨some ⟨g, 0, none⟩, c, hv, fun i hi => ⟨g, rfl, hc i hi⟩⟩
  · rcases h.2 with ⟨e, _⟩ | ⟨g, cap, cur, e, _⟩
    · exact ⟨none, 0, by rw [e, show xs.length = 0 by omega], fun i hi => by omega⟩
    · exact ⟨_, _, e, fun i hi => by omega⟩
theorem info65 : (Try.prog.info? 65).map (fun i => (i.zero, i.size, i.bytes)) = some (some (.agg #[.int .u32 z65.f0.f0, .int .u32 z65.f0.f1, .int .u64 z65.f1.f0, .int .u32 z65.f1.f1, .int .u64 z65.f2.f0, .int .u32 z65.f2.f1, .string z65.f3, .string z65.f4.f0, .string z65.f4.f1, .bool z65.f4.f2]), 10, 96) := by kernel_rfl
def inRI (lo hi : ByteArray) (x : S65) : Bool := inR lo hi x.f4.f0
def rngI (lo hi : ByteArray) (L : List S65) : List S65 := L.filter (inRI lo hi)
theorem rangeL_I (lo hi : ByteArray) (L : List S65) : rangeL (L.map pairOf) lo hi = (rngI lo hi L).map fun x => x.f4.f0 := by
  unfold rangeL rngI
  rw [List.map_map, List.filter_map]
  rfl
theorem find_at {L : List S65} (hs : Sorted (L.map pairOf)) {y : S65} (hy : y ∈ L) : findI y.f4.f0 L = some y := by
  induction L with
  | nil => cases hy
  | cons x r ih =>
    obtain ⟨s1, s2⟩ := List.pairwise_cons.1 hs
    unfold findI at ih ⊢
    rw [List.find?_cons]
    rcases List.mem_cons.1 hy with rfl | hy
    · rw [decide_eq_true rfl]
    · have h1 : Tree.lt x.f4.f0 y.f4.f0 = true := s1 (pairOf y) (List.mem_map_of_mem hy)
      rw [decide_eq_false (lt_ne h1)]
      exact ih s2 hy
theorem inR_all (k : ByteArray) : inR ⟨#[]⟩ ⟨#[]⟩ k = true := by
  unfold inR
  have e : (⟨#[]⟩ : ByteArray).toList = [] := by rw [ByteArray.toList_eq]
  refine decide_eq_true ⟨?_, .inl e⟩
  cases h : k.toList with
  | nil => exact .inr (by rw [e])
  | cons a r => exact .inl (lt_iff.2 (by rw [e, h]; exact List.nil_lt_cons _ _))
theorem rng_all (L : List S65) : rngI ⟨#[]⟩ ⟨#[]⟩ L = L := List.filter_eq_self.2 fun x _ => inR_all _
def AllP (W : World) (L : List S65) (e : Ending) (W' : World) : Prop := ∃ A c, e = .returned (.slice A L.length c) ∧ k65.R 65 W' 0 (fun b => W.heap.size ≤ b) (.slice A L.length c) L ∧ Mod W W' []
theorem keysI_calls {W : World} {g : Nat} {L : List S65} {fp : List Nat} (lo hi : ByteArray) (h : MapF W g (L.map pairOf) fp) (hl : L.length ≤ 1000000) :
    Calls Try.prog 67 #[.pointer (some ⟨g, 0, none⟩), .string lo, .string hi, .int .i64 9223372036854775807] W fun e W' => ∃ A c, e = .returned (.slice A (rngI lo hi L).length c) ∧ Mod W W' [] ∧ ∀ i (hx : i < (rngI lo hi L).length), ∃ g, A = some ⟨g, 0, none⟩ ∧ W'.cell? ⟨g, i, none⟩ = some (.string (rngI lo hi L)[i].f4.f0) := by
  refine (mkeys lo hi 9223372036854775807 h (by rw [List.length_map]; omega)).mono ?_
  have hlen : (rngI lo hi L).length ≤ L.length := List.length_filter_le _ _
  rw [rangeL_I, List.take_of_length_le (by rw [List.length_map]; show _ ≤ (9223372036854775807 : Nat); omega)]
  rintro e W' ⟨v, rfl, ho, hn, m⟩
  obtain ⟨A, c, rfl, hc⟩ := keys_row ho
  refine ⟨A, c, by rw [List.length_map], m, fun i hx => ?_⟩
  obtain ⟨g, e1, e2⟩ := hc i (by rw [List.length_map]; exact hx)
  rw [List.getElem_map] at e2
  exact ⟨g, e1, e2⟩
set_option maxHeartbeats 4000000 in
set_option maxRecDepth 100000 in
theorem all_calls {W : World} {t m : Nat} {L : List S65} {fp : List Nat} (h : Tab W t m L fp) (hl : L.length ≤ 1000000) :
    Calls Try.prog 27 #[.pointer (some ⟨t, 0, none⟩)] W (AllP W L) := by
  have H := Lib.hid h
  obtain ⟨hb, kb, Hs, fk, h1, lk, rfl⟩ := h
  have c1 := h1.c1
  have HK := Lib.hid h1.hk
  have HS := Lib.hid h1.hk.sorted
  clear h1 lk
  go_enter Try.func27, Try.ntmps27
  go_wp2_with fail
  refine (keysI_calls ⟨#[]⟩ ⟨#[]⟩ HK.out hl).mono ?_
  rw [rng_all]
  rintro e W2 ⟨A, c, rfl, m2, hk⟩
  have H2 := Lib.hid (And.intro (H.out.mod0 m2) (And.intro hk m2))
  clear m2 hk c1
  go_wp2_with fail
  go_loopg [3, 16] L.length (fun k lv i wr => ∃ j : Nat, j ≤ L.length ∧ k = L.length - j ∧ i = .int .i64 j ∧ k65.R 65 wr 0 (fun b => W2.heap.size ≤ b) lv (L.take j) ∧ Mod W2 wr [])
  case atStart => exact ⟨0, Nat.zero_le _, rfl, rfl, Kd.R_nil _ _ _ _ _, Mod.refl _ _⟩
  case round =>
    obtain ⟨j, hj, rfl, rfl, hR, hM⟩ := hrel
    obtain ⟨B, d, rfl, hd, hC⟩ := Kd.R_reads hR
    by_cases hjl : j < L.length
    · have hjz : (j : Int) < (L.length : Int) := by omega
      have hw : IntKind.i64.wrap ((j : Int) + 1) = ((j + 1 : Nat) : Int) := by rw [i64w (by omega) (by omega)]; omega
      obtain ⟨q, rfl, hk⟩ := H2.out.2.1 j hjl
      have hk' : wr.cell? ⟨q, j, none⟩ = some (.string L[j].f4.f0) := hM.cellN hk (by simp)
      have hfi := find_at HS.out (List.getElem_mem hjl)
      have hnx := List.take_succ_eq_append_getElem hjl
      have hlen : (L.take j).length ≤ 1000000 := by have := List.length_take_le j L; omega
      have HJ := Lib.hid (And.intro hR (And.intro hM (And.intro hfi hnx)))
      clear hR hM hfi hnx hk hC
      generalize L[j] = y at *
      generalize L.take j = acc at *
      go_wp2_with fail
      refine (of_calls (H2.out.1.mod0 (W' := wr) HJ.out.2.1) y.f4.f0).mono ?_
      rw [HJ.out.2.2.1]
      simp only [ofEnd]
      rintro e W3 ⟨rfl, m3⟩
      have m4 := (HJ.out.2.1.trans m3 (fun _ hk => by cases hk)).alloc (.cells #[.int .u32 y.f0.f0, .int .u32 y.f0.f1, .int .u64 y.f1.f0, .int .u32 y.f1.f1, .int .u64 y.f2.f0, .int .u32 y.f2.f1, .string y.f3, .string y.f4.f0, .string y.f4.f1, .bool y.f4.f2] 65)
      have x4 : IB (W3.alloc (.cells #[.int .u32 y.f0.f0, .int .u32 y.f0.f1, .int .u64 y.f1.f0, .int .u32 y.f1.f1, .int .u64 y.f2.f0, .int .u32 y.f2.f1, .string y.f3, .string y.f4.f0, .string y.f4.f1, .bool y.f4.f2] 65)) W3.heap.size y := blk_new W3 _
      have r4 := R_mod (R_mod HJ.out.1 m3) ((Mod.refl W3 []).alloc (.cells #[.int .u32 y.f0.f0, .int .u32 y.f0.f1, .int .u64 y.f1.f0, .int .u32 y.f1.f1, .int .u64 y.f2.f0, .int .u32 y.f2.f1, .string y.f3, .string y.f4.f0, .string y.f4.f1, .bool y.f4.f2] 65))
      have H4 := Lib.hid (And.intro m4 r4)
      clear m3 m4 r4 hk'
      go_upto_region 8 with fail
      generalize W3.alloc _ = W4 at *
      generalize W3.heap.size = q4 at *
      obtain ⟨c0, c1, c2, c3, c4, c5, c6, c7, c8, c9⟩ := x4.all
      clear x4
      go_wp2_with (first | (at_builtin; refine Kd.R_append k65 (w0 := W4) (W := W4) 0 rfl _ _ 66 65 (.agg #[.int .u32 z65.f0.f0, .int .u32 z65.f0.f1, .int .u64 z65.f1.f0, .int .u32 z65.f1.f1, .int .u64 z65.f2.f0, .int .u32 z65.f2.f1, .string z65.f3, .string z65.f4.f0, .string z65.f4.f1, .bool z65.f4.f2]) 96 rfl Try.underlying66 info65 rfl (by decide) (by decide) (.slice B acc.length d) acc y [.int .u32 y.f0.f0, .int .u32 y.f0.f1, .int .u64 y.f1.f0, .int .u32 y.f1.f1, .int .u64 y.f2.f0, .int .u32 y.f2.f1, .string y.f3, .string y.f4.f0, .string y.f4.f1, .bool y.f4.f2] (fun b => W2.heap.size ≤ b) (fun _ => False) rfl rfl (k65_mkM _ _ _ y) (fun k h => h.elim) (fun k h => Nat.le_trans H4.out.1.size h) H4.out.2 (Below.refl _ _) (Nat.zero_le _) (by omega) ?_) | fail)
      intro v9 W9 o9 _ g9 _
      have m9 : Mod W2 W9 [] := H4.out.1.trans (mod_own g9) (fun z hz => .inr (H4.out.2.1 z (own_mem _ z hz)))
      have H9 := Lib.hid (And.intro o9 m9)
      clear o9 g9 m9
      go_wp2
      go_roundg (L.length - (j + 1))
      case measure => omega
      case rel => exact ⟨j + 1, by omega, rfl, by rw [show ((j + 1 : Nat) : Int) = (j : Int) + 1 by omega], by rw [HJ.out.2.2.2]; exact H9.out.1, H9.out.2⟩
    · obtain rfl : j = L.length := by omega
      have hjz : ¬ (L.length : Int) < (L.length : Int) := by omega
      rw [List.take_length] at hR ⊢
      have HJ := Lib.hid (And.intro hR hM)
      clear hR hd hC hM
      go_wp2
      go_ret
      exact ⟨B, d, rfl, Kd.R_mono HJ.out.1 (fun k hk => Nat.le_trans H2.out.2.2.size hk), H2.out.2.2.trans HJ.out.2 (by simp)⟩
end Go.Proofs.Ytdelbidaclddgaa.Lat
