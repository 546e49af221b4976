/- The layer 'latch': LatP; a seat's own text, no law of its own. -/
import Derived.Test.YtdelbidaclddgaaLatO
import Derived.Deep.LoopGhost
import Derived.Deep.Cut
import Derived.Lib.Hide
import Derived.StillTailTactics
import Derived.Deep.QuietTactic
import Derived.BigQuiet
import Derived.Outline
import Derived.Deep.RegionWith
import Derived.Deep.RegionHeld3
import Derived.WalkLawsBesides
namespace Go.Proofs.Ytdelbidaclddgaa.Lat
open Go.RowKit Go.Proofs.YtdelbidaclddgaaW.PrintWords Go.Proofs.Ytdelbidaclddgaa.MLatchRuns Go.Proofs.YtdelbidaclddgaaW.PrintLast
set_option linter.unusedVariables false
set_option linter.unusedSimpArgs false
attribute [local go_sem high] eqA32 eqA35 eqA63 eqA65
/-! awake -/
def kA : ByteArray := ⟨#[97]⟩
def kB : ByteArray := ⟨#[98]⟩
def wA : S63 := ⟨⟨#[97]⟩, ⟨#[]⟩, false⟩
def wB : S63 := ⟨⟨#[98]⟩, ⟨#[]⟩, false⟩
def xA : S65 := ⟨⟨1, 0⟩, ⟨5, 0⟩, ⟨6, 0⟩, ⟨#[97]⟩, wA⟩
def xB : S65 := ⟨⟨1, 0⟩, ⟨5, 0⟩, ⟨6, 0⟩, ⟨#[97]⟩, wB⟩
theorem tA : (⟨#[97]⟩ : ByteArray).toList = [97] := by rw [ByteArray.toList_eq]
theorem tB : (⟨#[98]⟩ : ByteArray).toList = [98] := by rw [ByteArray.toList_eq]
theorem tE : (⟨#[]⟩ : ByteArray).toList = [] := by rw [ByteArray.toList_eq]
theorem ltAB : Tree.lt (⟨#[97]⟩ : ByteArray) ⟨#[98]⟩ = true := by unfold Tree.lt; rw [tA, tB]; decide
theorem okA : okW wA = true := by
  unfold okW wA
  rw [tE]
  rfl
theorem okB : okW wB = true := by
  unfold okW wB
  rw [tE]
  rfl
theorem aw1 : layB [] 1 0 ⟨5, 0⟩ ⟨6, 0⟩ ⟨#[97]⟩ [wA, wB] = 0 := by
  have h : rightW [wA, wB] = true := by
    unfold rightW
    simp only [List.all_cons, List.all_nil, okA, okB]
    decide
  unfold layB
  rw [h]
  rfl
theorem aw2 : layL [] 1 0 ⟨5, 0⟩ ⟨6, 0⟩ ⟨#[97]⟩ [wA, wB] = [xA, xB] := by
  unfold layL
  rw [aw1, if_pos rfl]
  show iput xB [xA] = _
  unfold iput
  rw [if_pos (show Tree.lt xA.f4.f0 xB.f4.f0 = true from ltAB)]
  rfl
theorem fiB : findI ⟨#[98]⟩ [xA, xB] = some xB := by
  unfold findI
  rw [List.find?_cons, decide_eq_false (show ¬ xA.f4.f0.toList = _ from by show ¬ (⟨#[97]⟩ : ByteArray).toList = _; rw [tA, tB]; decide)]
  show List.find? _ [xB] = _
  rw [List.find?_cons, decide_eq_true (show xB.f4.f0.toList = (⟨#[98]⟩ : ByteArray).toList from rfl)]
theorem aw3 : layB [xA, xB] 2 0 ⟨7, 0⟩ ⟨8, 0⟩ ⟨#[98]⟩ [wB] = 40 := by
  have h : rightW [wB] = true := by
    unfold rightW
    simp only [List.all_cons, List.all_nil, okB]
    decide
  have h2 : anyBusy [xA, xB] [wB] = true := by
    unfold anyBusy
    rw [List.any_cons]
    unfold busyB
    rw [show wB.f0 = ⟨#[98]⟩ from rfl, fiB]
    rfl
  unfold layB
  rw [h, h2]
  simp
  decide
theorem aw4 : firstI ⟨#[]⟩ ⟨#[]⟩ 5 0 [] [xA, xB] = none := by
  unfold firstI
  rw [rng_all]
  rfl
theorem aw5 : firstI ⟨#[]⟩ ⟨#[]⟩ 6 0 [] [xA, xB] = some xA := by
  unfold firstI
  rw [rng_all]
  rfl
/-- a row of writes, just built -/
theorem row_w1 (W : World) (b : Nat) (x : S63) (h : W.heap[b]? = some (.cells #[.string x.f0, .string x.f1, .bool x.f2] 63 (0, 0))) : Kd.C k63 W (some ⟨b, 0, none⟩) 1 [x] := by
  have c0 := (blk_cell h 0).trans (rfl : _ = some (Value.string x.f0))
  have c1 := (blk_cell h 1).trans (rfl : _ = some (Value.string x.f1))
  have c2 := (blk_cell h 2).trans (rfl : _ = some (Value.bool x.f2))
  refine ⟨rfl, by omega, fun _ => ⟨_, rfl, fun j p hj => ?_⟩⟩
  match j, hj with
  | 0, hj =>
    obtain rfl := Option.some.inj hj
    refine ⟨_, rfl, k63_mk _ x, fun i u hu => ?_⟩
    match i, hu with
    | 0, hu => obtain rfl := Option.some.inj hu; simpa [Addr.add] using c0
    | 1, hu => obtain rfl := Option.some.inj hu; simpa [Addr.add] using c1
    | 2, hu => obtain rfl := Option.some.inj hu; simpa [Addr.add] using c2
theorem row_w2 (W : World) (b : Nat) (x y : S63) (h : W.heap[b]? = some (.cells #[.string x.f0, .string x.f1, .bool x.f2, .string y.f0, .string y.f1, .bool y.f2] 63 (0, 0))) : Kd.C k63 W (some ⟨b, 0, none⟩) 2 [x, y] := by
  have c0 := (blk_cell h 0).trans (rfl : _ = some (Value.string x.f0))
  have c1 := (blk_cell h 1).trans (rfl : _ = some (Value.string x.f1))
  have c2 := (blk_cell h 2).trans (rfl : _ = some (Value.bool x.f2))
  have c3 := (blk_cell h 3).trans (rfl : _ = some (Value.string y.f0))
  have c4 := (blk_cell h 4).trans (rfl : _ = some (Value.string y.f1))
  have c5 := (blk_cell h 5).trans (rfl : _ = some (Value.bool y.f2))
  refine ⟨rfl, by omega, fun _ => ⟨_, rfl, fun j p hj => ?_⟩⟩
  match j, hj with
  | 0, hj =>
    obtain rfl := Option.some.inj hj
    refine ⟨_, rfl, k63_mk _ x, fun i u hu => ?_⟩
    match i, hu with
    | 0, hu => obtain rfl := Option.some.inj hu; simpa [Addr.add] using c0
    | 1, hu => obtain rfl := Option.some.inj hu; simpa [Addr.add] using c1
    | 2, hu => obtain rfl := Option.some.inj hu; simpa [Addr.add] using c2
  | 1, hj =>
    obtain rfl := Option.some.inj hj
    refine ⟨_, rfl, k63_mk _ y, fun i u hu => ?_⟩
    match i, hu with
    | 0, hu => obtain rfl := Option.some.inj hu; show W.cell? ((⟨b, 0, none⟩ : Addr).add (1 * 3 + 0)) = _; simpa [Addr.add] using c3
    | 1, hu => obtain rfl := Option.some.inj hu; show W.cell? ((⟨b, 0, none⟩ : Addr).add (1 * 3 + 1)) = _; simpa [Addr.add] using c4
    | 2, hu => obtain rfl := Option.some.inj hu; show W.cell? ((⟨b, 0, none⟩ : Addr).add (1 * 3 + 2)) = _; simpa [Addr.add] using c5
structure Aw (W V : World) (q t m : Nat) (L : List S65) (fp : List Nat) : Prop where
  hT : Tab V t m L fp
  hf : ∀ y ∈ fp, W.heap.size ≤ y ∧ y ≠ q ∧ y ≠ q + 1
  hM : Mod W V []
  ha : V.heap[q]? = some (.cells #[.int .u32 1, .int .u32 0] 32 (0, 0))
  hb : V.heap[q + 1]? = some (.cells #[.int .u32 2, .int .u32 0] 32 (0, 0))
theorem Aw.mod {W V V' : World} {q t m : Nat} {L : List S65} {fp : List Nat} (h : Aw W V q t m L fp) (mm : Mod V V' []) : Aw W V' q t m L fp :=
  ⟨h.hT.mod0 mm, h.hf, h.hM.trans mm (fun _ hk => by cases hk), mm.at_ h.ha (by simp), mm.at_ h.hb (by simp)⟩
theorem Aw.lay {W V V' : World} {q t m : Nat} {L L' : List S65} {fp : List Nat} {r : Int} {e : Ending} (h : Aw W V q t m L fp) (hl : LayP V t m fp r L' e V') : e = .returned (.int .i64 r) ∧ ∃ fp', Aw W V' q t (m + 1) L' fp' := by
  obtain ⟨he, ⟨fp', hT, hs⟩, mm⟩ := hl
  have h1 := blk_lt h.hb
  have h2 := h.hM.size
  refine ⟨he, fp', hT, fun y hy => ?_, h.hM.trans mm (fun k hk => .inr (h.hf k hk).1), mm.at_ h.ha (fun hm => (h.hf _ hm).2.1 rfl), mm.at_ h.hb (fun hm => (h.hf _ hm).2.2 rfl)⟩
  rcases hs y hy with e | e
  · exact h.hf y e
  · exact ⟨by omega, by omega, by omega⟩
theorem Aw.cells {W V : World} {q t m : Nat} {L : List S65} {fp : List Nat} (h : Aw W V q t m L fp) : V.cell? ⟨q, 0, none⟩ = some (.int .u32 1) ∧ V.cell? ⟨q, 1, none⟩ = some (.int .u32 0) ∧ V.cell? ⟨q + 1, 0, none⟩ = some (.int .u32 2) ∧ V.cell? ⟨q + 1, 1, none⟩ = some (.int .u32 0) :=
  ⟨(blk_cell h.ha 0).trans rfl, (blk_cell h.ha 1).trans rfl, (blk_cell h.hb 0).trans rfl, (blk_cell h.hb 1).trans rfl⟩
theorem nil32 (W : World) : Kd.C k32 W none ([] : List S32).length [] := ⟨rfl, by simp, fun h => by simp at h⟩
set_option maxHeartbeats 4000000 in
set_option maxRecDepth 100000 in
theorem awake_calls (W : World) : Calls Try.prog 24 #[] W fun e W' => e = .returned (.bool true) ∧ Mod W W' [] := by
  go_enter Try.func24, Try.ntmps24
  go_wp2_with fail
  refine (newT_calls _).mono ?_
  rintro e V1 ⟨t, fp, rfl, hT, m1, hn⟩
  have N2 : Mod V1 ((V1.alloc (.cells #[.int .u32 1, .int .u32 0] 32)).alloc (.cells #[.int .u32 2, .int .u32 0] 32)) [] := ((Mod.refl V1 []).alloc _).alloc _
  have bA := blk_new V1 (.cells #[.int .u32 1, .int .u32 0] 32)
  have s1 : (V1.alloc (.cells #[.int .u32 1, .int .u32 0] 32)).heap.size = V1.heap.size + 1 := by simp
  have bB := blk_new (V1.alloc (.cells #[.int .u32 1, .int .u32 0] 32)) (.cells #[.int .u32 2, .int .u32 0] 32)
  rw [s1] at bB
  have H2 : Hid (Aw W ((V1.alloc (.cells #[.int .u32 1, .int .u32 0] 32)).alloc (.cells #[.int .u32 2, .int .u32 0] 32)) V1.heap.size t 0 [] fp) := Lib.hid ⟨hT.mod0 N2, fun y hy => by
    have h1 := hn y hy
    have h2 := hT.lt y hy
    exact ⟨h1, by omega, by omega⟩, m1.trans N2 (fun _ hk => by cases hk), ((Mod.refl (V1.alloc (.cells #[.int .u32 1, .int .u32 0] 32)) []).alloc (.cells #[.int .u32 2, .int .u32 0] 32)).at_ bA (by simp), bB⟩
  clear hT m1 hn N2 bA s1 bB
  go_upto_region 3 with fail
  generalize (V1.alloc _).alloc _ = V2 at *
  generalize V1.heap.size = q at *
  obtain ⟨a0, a1, a2, a3⟩ := H2.out.cells
  go_wp2_with fail
  have m3 : Mod V2 (V2.alloc (.cells #[.string wA.f0, .string wA.f1, .bool wA.f2, .string wB.f0, .string wB.f1, .bool wB.f2] 63)) [] := (Mod.refl V2 []).alloc _
  have hrow : Kd.C k63 (V2.alloc (.cells #[.string wA.f0, .string wA.f1, .bool wA.f2, .string wB.f0, .string wB.f1, .bool wB.f2] 63)) (some ⟨V2.heap.size, 0, none⟩) 2 [wA, wB] := row_w2 _ _ wA wB (blk_new V2 _)
  have H3 := Lib.hid (H2.out.mod m3)
  have hlt := H2.out.hT.lt
  refine (layI_calls H3.out.hT 1 0 ⟨5, 0⟩ ⟨6, 0⟩ ⟨#[97]⟩ (some ⟨V2.heap.size, 0, none⟩) 2 [wA, wB] hrow (by decide) ⟨by decide, by decide, by decide, by decide⟩ (by decide) (fun _ ad e hm => by cases e; have h9 : V2.heap.size < V2.heap.size := hlt _ hm; omega) (by decide) (by decide) aw1 aw2).mono ?_
  intro e V4 hl
  obtain ⟨rfl, fp4, h4⟩ := H3.out.lay hl
  have H4 := Lib.hid h4
  clear m3 hrow hlt hl h4 H2 H3 a0 a1 a2 a3
  obtain ⟨a0, a1, a2, a3⟩ := H4.out.cells
  go_wp2_with fail
  have m5 : Mod V4 (V4.alloc (.cells #[.string wB.f0, .string wB.f1, .bool wB.f2] 63)) [] := (Mod.refl V4 []).alloc _
  have hrow : Kd.C k63 (V4.alloc (.cells #[.string wB.f0, .string wB.f1, .bool wB.f2] 63)) (some ⟨V4.heap.size, 0, none⟩) 1 [wB] := row_w1 _ _ wB (blk_new V4 _)
  have H5 := Lib.hid (H4.out.mod m5)
  have hlt := H4.out.hT.lt
  refine (layI_calls H5.out.hT 2 0 ⟨7, 0⟩ ⟨8, 0⟩ ⟨#[98]⟩ (some ⟨V4.heap.size, 0, none⟩) 1 [wB] hrow (by decide) ⟨by decide, by decide, by decide, by decide⟩ (by decide) (fun _ ad e hm => by cases e; have h9 : V4.heap.size < V4.heap.size := hlt _ hm; omega) (by decide) (by decide) aw3 (by unfold layL; rw [aw3, if_neg (by decide)])).mono ?_
  intro e V6 hl
  obtain ⟨rfl, fp6, h6⟩ := H5.out.lay hl
  have H6 := Lib.hid h6
  clear m5 hrow hlt hl h6 H4 H5 a0 a1 a2 a3
  go_wp2_with fail
  refine (firstI_calls H6.out.hT (by decide) ⟨#[]⟩ ⟨#[]⟩ 5 0 none 0 [] (nil32 _) (by decide) (by decide) aw4).mono ?_
  simp only [ofEnd]
  rintro e V7 ⟨rfl, m7⟩
  have H7 := Lib.hid ((H6.out.mod m7).mod ((Mod.refl V7 []).alloc (.cells #[.int .u32 z65.f0.f0, .int .u32 z65.f0.f1, .int .u64 z65.f1.f0, .int .u32 z65.f1.f1, .int .u64 z65.f2.f0, .int .u32 z65.f2.f1, .string z65.f3, .string z65.f4.f0, .string z65.f4.f1, .bool z65.f4.f2] 65)))
  simp only [z65, z32, z35, z63] at H7
  clear m7 H6
  go_upto_region 6 with fail
  generalize V7.alloc _ = V8 at *
  go_wp2_with fail
  refine (firstI_calls H7.out.hT (by decide) ⟨#[]⟩ ⟨#[]⟩ 6 0 none 0 [] (nil32 _) (by decide) (by decide) aw5).mono ?_
  simp only [ofEnd]
  rintro e V9 ⟨rfl, m9⟩
  have b9 : IB (V9.alloc (.cells #[.int .u32 xA.f0.f0, .int .u32 xA.f0.f1, .int .u64 xA.f1.f0, .int .u32 xA.f1.f1, .int .u64 xA.f2.f0, .int .u32 xA.f2.f1, .string xA.f3, .string xA.f4.f0, .string xA.f4.f1, .bool xA.f4.f2] 65)) V9.heap.size xA := blk_new V9 _
  have H9 := Lib.hid ((H7.out.mod m9).mod ((Mod.refl V9 []).alloc (.cells #[.int .u32 xA.f0.f0, .int .u32 xA.f0.f1, .int .u64 xA.f1.f0, .int .u32 xA.f1.f1, .int .u64 xA.f2.f0, .int .u32 xA.f2.f1, .string xA.f3, .string xA.f4.f0, .string xA.f4.f1, .bool xA.f4.f2] 65)))
  clear m9 H7
  go_upto_region 7 with fail
  generalize V9.alloc _ = V10 at *
  generalize V9.heap.size = q9 at *
  obtain ⟨a0, a1, a2, a3⟩ := H9.out.cells
  obtain ⟨c0, c1, c2, c3, c4, c5, c6, c7, c8, c9⟩ := b9.all
  simp only [xA, wA] at c0 c1 c2 c3 c4 c5 c6 c7 c8 c9
  go_wp2
  go_ret
  exact ⟨rfl, H9.out.hM⟩
end Go.Proofs.Ytdelbidaclddgaa.Lat
