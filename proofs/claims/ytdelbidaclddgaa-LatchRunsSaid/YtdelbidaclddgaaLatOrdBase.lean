/- The layer 'order' at owners of keys: its tree in memory, heights, rotations and balancing walked; a seat's own text, no law of its own. -/
import Derived.Test.YtdelbidaclddgaaMLatchRunsx5
import Derived.Deep.LoopGhost
import Derived.Deep.Cut
import Derived.Lib.Hide
import Derived.StillTailTactics
import Derived.Deep.QuietTactic
import Derived.BigQuiet
import Derived.Outline
import Derived.Deep.RegionWith
import Derived.Deep.RegionHeld3
import Derived.WalkLawsBesides
import Derived.Test.YtdelbidaclddgaaLatOrdTree
import Derived.Test.YtdelbidaclddgaaLatFrm
import Derived.Lib.Hide
import Derived.StillTailTactics
import Derived.Deep.QuietTactic
import Derived.BigQuiet
import Derived.WalkLawsBesides
namespace Go.Proofs.Ytdelbidaclddgaa.Lat
open Go.RowKit Go.Proofs.Ytdelbidaclddgaa.MLatchRuns Go.Proofs.YtdelbidaclddgaaW.PrintLast Go.Proofs.YtdelbidaclddgaaW.PrintWords
set_option linter.unusedVariables false
set_option linter.unusedSimpArgs false
set_option maxHeartbeats 1000000
set_option maxRecDepth 100000
def addr : Tree S105 → Option Addr
  | .nil => none
  | .node b _ _ _ _ _ => some ⟨b, 0, none⟩
def cellsOf (k : ByteArray) (v : S105) (h : Int) (l r : Tree S105) : Array Value := #[.string k, .int .u32 v.f0.f0, .int .u32 v.f0.f1, .string v.f1.f0, .string v.f1.f1, .bool v.f1.f2, .int .i64 h, (.pointer (addr l)), (.pointer (addr r))]
def At (H : Array Obj) : Tree S105 → Prop
  | .nil => True
  | .node b k v h l r => H[b]? = some (.cells (cellsOf k v h l r) 137 (0, 0)) ∧ At H l ∧ At H r
theorem at_lt {H : Array Obj} {t : Tree S105} (h : At H t) : ∀ x ∈ t.blocks, x < H.size := by
  induction t with
  | nil => intro x hx; cases hx
  | node b k v hh l r il ir =>
    intro x hx
    simp only [Tree.blocks, List.mem_cons, List.mem_append] at hx
    rcases hx with rfl | hx | hx
    · exact (Array.getElem?_eq_some_iff.1 h.1).1
    · exact il h.2.1 x hx
    · exact ir h.2.2 x hx
theorem at_same {H H' : Array Obj} {t : Tree S105} (h : At H t) (hs : ∀ x ∈ t.blocks, H'[x]? = H[x]?) : At H' t := by
  induction t with
  | nil => trivial
  | node b k v hh l r il ir =>
    refine ⟨(hs b (by simp [Tree.blocks])).trans h.1, il h.2.1 (fun x hx => hs x (by simp [Tree.blocks, hx])), ir h.2.2 (fun x hx => hs x (by simp [Tree.blocks, hx]))⟩
theorem at_mod {W W' : World} {fp : List Nat} {t : Tree S105} (h : At W.heap t) (hm : Mod W W' fp) (hd : ∀ x ∈ t.blocks, x ∉ fp) : At W'.heap t :=
  at_same h (fun x hx => hm.block x (at_lt h x hx) (hd x hx))
theorem height_calls {W : World} {t : Tree S105} (h : At W.heap t) : Calls Try.prog 116 #[.pointer (addr t)] W fun e w' => e = .returned (.int .i64 t.height) ∧ w' = W := by
  cases t with
  | nil =>
    show Calls Try.prog 116 #[.pointer none] W _
    go_enter Try.func116, Try.ntmps116
    go_wp2
    go_ret
    exact ⟨rfl, rfl⟩
  | node b k v hh l r =>
    have hc2 : W.cell? ⟨b, 6, none⟩ = some (.int .i64 hh) := (blk_cell h.1 6).trans rfl
    clear h
    show Calls Try.prog 116 #[.pointer (some ⟨b, 0, none⟩)] W _
    go_enter Try.func116, Try.ntmps116
    go_wp2
    go_ret
    exact ⟨rfl, rfl⟩
theorem height_node_calls {W : World} {b : Nat} {k : ByteArray} {v : S105} {h : Int} {l r : Tree S105} (hb : W.heap[b]? = some (.cells (cellsOf k v h l r) 137 (0, 0))) : Calls Try.prog 116 #[.pointer (some ⟨b, 0, none⟩)] W fun e w' => e = .returned (.int .i64 h) ∧ w' = W := by
  have hc2 : W.cell? ⟨b, 6, none⟩ = some (.int .i64 h) := (blk_cell hb 6).trans rfl
  clear hb
  go_enter Try.func116, Try.ntmps116
  go_wp2
  go_ret
  exact ⟨rfl, rfl⟩
theorem wrap_h {a : Int} (h0 : 0 ≤ a) (h1 : a ≤ 1000000000000) : IntKind.i64.wrap (1 + a) = 1 + a := by
  simp only [IntKind.wrap, IntKind.signed, IntKind.bits]
  simp
  omega
set_option maxRecDepth 100000 in
set_option maxHeartbeats 1000000 in
theorem measure_walk {W : World} {b : Nat} {k : ByteArray} {v : S105} {h : Int} {l r : Tree S105} (hb : W.heap[b]? = some (.cells (cellsOf k v h l r) 137 (0, 0))) (hl : At W.heap l) (hr : At W.heap r)
    (l0 : 0 ≤ l.height) (l1 : l.height ≤ 1000000000000) (r0 : 0 ≤ r.height) (r1 : r.height ≤ 1000000000000) : Calls Try.prog 115 #[.pointer (some ⟨b, 0, none⟩)] W fun e w' => e = .returned (.tuple #[]) ∧ w' = (W.setCell ⟨b, 6, none⟩ (.int .i64 (1 + max l.height r.height))).drew := by
  have hc2 : W.cell? ⟨b, 6, none⟩ = some (.int .i64 h) := (blk_cell hb 6).trans rfl
  have hc3 : W.cell? ⟨b, 7, none⟩ = some ((.pointer (addr l))) := (blk_cell hb 7).trans rfl
  have hc4 : W.cell? ⟨b, 8, none⟩ = some ((.pointer (addr r))) := (blk_cell hb 8).trans rfl
  have hf2 := blk_frozen hb 6
  have HL := Lib.hid hl
  have HR := Lib.hid hr
  clear hl hr hb
  go_enter Try.func115, Try.ntmps115
  go_wp2_with fail
  go_still_tail 15, (by kernel_rfl)
  still_call (height_calls (t := l) HL.out)
  repeat still_step
  still_call (height_calls (t := r) HR.out)
  repeat still_step
  refine wpStill_nil ?_
  change wpList _ _ _ _ _ W.drew
  go_wp2
  · have e : max l.height r.height = r.height := Int.max_eq_right (by omega)
    go_end0
    refine ⟨rfl, ?_⟩
    rw [e]
  · have e : max l.height r.height = l.height := Int.max_eq_left (by omega)
    go_end0
    refine ⟨rfl, ?_⟩
    rw [e]
/-- A node is measured anew. -/
theorem measure_calls {W : World} {b : Nat} {k : ByteArray} {v : S105} {h : Int} {l r : Tree S105} (hA : At W.heap (.node b k v h l r)) (hn : (Tree.node b k v h l r).blocks.Nodup)
    (l0 : 0 ≤ l.height) (l1 : l.height ≤ 1000000000000) (r0 : 0 ≤ r.height) (r1 : r.height ≤ 1000000000000) :
    Calls Try.prog 115 #[.pointer (some ⟨b, 0, none⟩)] W fun e W' => e = .returned (.tuple #[]) ∧ At W'.heap (Tree.node b k v h l r).measure ∧ Mod W W' [b] := by
  refine (measure_walk hA.1 hA.2.1 hA.2.2 l0 l1 r0 r1).mono ?_
  rintro e w' ⟨rfl, rfl⟩
  simp only [Tree.blocks, List.nodup_cons, List.mem_append, not_or] at hn
  have hm : Mod W ((W.setCell ⟨b, 6, none⟩ (.int .i64 (1 + max l.height r.height))).drew) [b] := ((Mod.refl W [b]).setCell (.inl (by simp)) _).drew
  refine ⟨rfl, ⟨blk_put hA.1 6 _ rfl, at_mod hA.2.1 hm ?_, at_mod hA.2.2 hm ?_⟩, hm⟩
  · intro x hx; simp only [List.mem_singleton]; rintro rfl; exact hn.1.1 hx
  · intro x hx; simp only [List.mem_singleton]; rintro rfl; exact hn.1.2 hx
set_option maxRecDepth 100000 in
set_option maxHeartbeats 1000000 in
/-- The left child on top: the two stores. -/
theorem turnL_walk {W : World} {b b2 : Nat} {k k2 : ByteArray} {v : S105} {h : Int} {v2 : S105} {h2 : Int} {l2 r2 r : Tree S105} (hA : At W.heap (.node b k v h (.node b2 k2 v2 h2 l2 r2) r)) (hn : (Tree.node b k v h (.node b2 k2 v2 h2 l2 r2) r).blocks.Nodup)
    (l0 : 0 ≤ l2.height) (l1 : l2.height ≤ 100000000000) (m0 : 0 ≤ r2.height) (m1 : r2.height ≤ 100000000000) (r0 : 0 ≤ r.height) (r1 : r.height ≤ 100000000000) :
    Calls Try.prog 117 #[.pointer (some ⟨b, 0, none⟩), .bool true] W fun e W' => e = .returned (.pointer (some ⟨b2, 0, none⟩)) ∧ At W'.heap (Tree.node b k v h (.node b2 k2 v2 h2 l2 r2) r).turnL ∧ Mod W W' [b, b2] := by
  obtain ⟨hb, ⟨hb2, hl2, hr2⟩, hr⟩ := hA
  have HN0 := Lib.hid hn
  have hd := Tree.nd_left hn
  have hne : b ≠ b2 := hd.1
  have hne' : b2 ≠ b := fun e => hne e.symm
  have hc3 : W.cell? ⟨b, 7, none⟩ = some (.pointer (some ⟨b2, 0, none⟩)) := (blk_cell hb 7).trans rfl
  have hd4 : W.cell? ⟨b2, 8, none⟩ = some (.pointer (addr r2)) := (blk_cell hb2 8).trans rfl
  have hf3 := blk_frozen hb 7
  have hg4 := blk_frozen hb2 8
  -- the world behind the stores
  have W1b : ((W.setCell ⟨b, 7, none⟩ (.pointer (addr r2))).setCell ⟨b2, 8, none⟩ (.pointer (some ⟨b, 0, none⟩))).heap[b]? = some (.cells (cellsOf k v h r2 r) 137 (0, 0)) := blk_far (blk_put hb 7 _ rfl) hne _
  have W1b2 : ((W.setCell ⟨b, 7, none⟩ (.pointer (addr r2))).setCell ⟨b2, 8, none⟩ (.pointer (some ⟨b, 0, none⟩))).heap[b2]? = some (.cells #[.string k2, .int .u32 v2.f0.f0, .int .u32 v2.f0.f1, .string v2.f1.f0, .string v2.f1.f1, .bool v2.f1.f2, .int .i64 h2, (.pointer (addr l2)), .pointer (some ⟨b, 0, none⟩)] 137 (0, 0)) := blk_put (blk_far hb2 hne' _) 8 _ rfl
  have M1 : Mod W ((W.setCell ⟨b, 7, none⟩ (.pointer (addr r2))).setCell ⟨b2, 8, none⟩ (.pointer (some ⟨b, 0, none⟩))) [b, b2] := ((Mod.refl W [b, b2]).setCell (.inl (by simp)) _).setCell (.inl (by simp)) _
  have A2 := Lib.hid (And.intro hl2 (And.intro hr2 hr))
  have HN := Lib.hid hd
  have HW := Lib.hid (And.intro W1b (And.intro W1b2 M1))
  clear hb hb2 hl2 hr2 hr hn hd W1b W1b2 M1
  go_enter Try.func117, Try.ntmps117
  go_wp2_with fail
  generalize (W.setCell ⟨b, 7, none⟩ (.pointer (addr r2))).setCell ⟨b2, 8, none⟩ (.pointer (some ⟨b, 0, none⟩)) = W1 at HW ⊢
  have hA1 : At W1.heap (.node b k v h r2 r) := by
    exact ⟨HW.out.1, at_mod A2.out.2.1 HW.out.2.2 HN.out.2.2.1, at_mod A2.out.2.2 HW.out.2.2 HN.out.2.2.2⟩
  have hn1 : (Tree.node b k v h r2 r).blocks.Nodup := (Tree.nd_node (((Tree.turnL_perm (.node b k v h (.node b2 k2 v2 h2 l2 r2) r)).nodup_iff).2 HN0.out)).2.2.2.1
  refine (measure_calls hA1 hn1 (by omega) (by omega) (by omega) (by omega)).mono ?_
  rintro e W2 ⟨rfl, hB, hM⟩
  have HB := Lib.hid (And.intro hB (And.intro hM (And.intro hA1 hn1)))
  clear hB hM hA1 hn1
  go_wp2_with fail
  have hA2 : At W2.heap (.node b2 k2 v2 h2 l2 (Tree.node b k v h r2 r).measure) := by
    exact ⟨HB.out.2.1.at_ HW.out.2.1 (by simp only [List.mem_singleton]; exact hne'), at_mod (at_mod A2.out.1 HW.out.2.2 HN.out.2.1) HB.out.2.1 (fun x hx hm => HN.out.2.1 x hx (by simp only [List.mem_singleton] at hm; simp [hm])), HB.out.1⟩
  have hn2 : (Tree.node b2 k2 v2 h2 l2 (Tree.node b k v h r2 r).measure).blocks.Nodup := by
    exact ((Tree.turnL_perm (.node b k v h (.node b2 k2 v2 h2 l2 r2) r)).nodup_iff).2 HN0.out
  have hh : (Tree.node b k v h r2 r).measure.height = 1 + max r2.height r.height := rfl
  have hx : 0 ≤ max r2.height r.height ∧ max r2.height r.height ≤ 100000000000 := by omega
  refine (measure_calls hA2 hn2 (by omega) (by omega) (by rw [hh]; omega) (by rw [hh]; omega)).mono ?_
  rintro e W3 ⟨rfl, hC, hM3⟩
  have HC := Lib.hid (And.intro hC hM3)
  clear hC hM3 hA2 hn2 hh hx
  go_wp2
  go_ret
  refine ⟨rfl, HC.out.1, ((HW.out.2.2.trans HB.out.2.1 (by simp)).trans HC.out.2 (by simp))⟩
set_option maxRecDepth 100000 in
set_option maxHeartbeats 1000000 in
/-- The right child on top: the two stores. -/
theorem turnR_walk {W : World} {b b2 : Nat} {k k2 : ByteArray} {v : S105} {h : Int} {v2 : S105} {h2 : Int} {l l2 r2 : Tree S105} (hA : At W.heap (.node b k v h l (.node b2 k2 v2 h2 l2 r2))) (hn : (Tree.node b k v h l (.node b2 k2 v2 h2 l2 r2)).blocks.Nodup)
    (l0 : 0 ≤ l2.height) (l1 : l2.height ≤ 100000000000) (m0 : 0 ≤ r2.height) (m1 : r2.height ≤ 100000000000) (r0 : 0 ≤ l.height) (r1 : l.height ≤ 100000000000) :
    Calls Try.prog 117 #[.pointer (some ⟨b, 0, none⟩), .bool false] W fun e W' => e = .returned (.pointer (some ⟨b2, 0, none⟩)) ∧ At W'.heap (Tree.node b k v h l (.node b2 k2 v2 h2 l2 r2)).turnR ∧ Mod W W' [b, b2] := by
  obtain ⟨hb, hl, hb2, hl2, hr2⟩ := hA
  have HN0 := Lib.hid hn
  have hd := Tree.nd_right hn
  have hne : b ≠ b2 := hd.1
  have hne' : b2 ≠ b := fun e => hne e.symm
  have hc3 : W.cell? ⟨b, 8, none⟩ = some (.pointer (some ⟨b2, 0, none⟩)) := (blk_cell hb 8).trans rfl
  have hd4 : W.cell? ⟨b2, 7, none⟩ = some (.pointer (addr l2)) := (blk_cell hb2 7).trans rfl
  have hf3 := blk_frozen hb 8
  have hg4 := blk_frozen hb2 7
  -- the world behind the stores
  have W1b : ((W.setCell ⟨b, 8, none⟩ (.pointer (addr l2))).setCell ⟨b2, 7, none⟩ (.pointer (some ⟨b, 0, none⟩))).heap[b]? = some (.cells (cellsOf k v h l l2) 137 (0, 0)) := blk_far (blk_put hb 8 _ rfl) hne _
  have W1b2 : ((W.setCell ⟨b, 8, none⟩ (.pointer (addr l2))).setCell ⟨b2, 7, none⟩ (.pointer (some ⟨b, 0, none⟩))).heap[b2]? = some (.cells #[.string k2, .int .u32 v2.f0.f0, .int .u32 v2.f0.f1, .string v2.f1.f0, .string v2.f1.f1, .bool v2.f1.f2, .int .i64 h2, .pointer (some ⟨b, 0, none⟩), .pointer (addr r2)] 137 (0, 0)) := blk_put (blk_far hb2 hne' _) 7 _ rfl
  have M1 : Mod W ((W.setCell ⟨b, 8, none⟩ (.pointer (addr l2))).setCell ⟨b2, 7, none⟩ (.pointer (some ⟨b, 0, none⟩))) [b, b2] := ((Mod.refl W [b, b2]).setCell (.inl (by simp)) _).setCell (.inl (by simp)) _
  have A2 := Lib.hid (And.intro hr2 (And.intro hl2 hl))
  have HN := Lib.hid hd
  have HW := Lib.hid (And.intro W1b (And.intro W1b2 M1))
  clear hb hb2 hl2 hr2 hl hn hd W1b W1b2 M1
  go_enter Try.func117, Try.ntmps117
  go_wp2_with fail
  generalize (W.setCell ⟨b, 8, none⟩ (.pointer (addr l2))).setCell ⟨b2, 7, none⟩ (.pointer (some ⟨b, 0, none⟩)) = W1 at HW ⊢
  have hA1 : At W1.heap (.node b k v h l l2) := by
    exact ⟨HW.out.1, at_mod A2.out.2.2 HW.out.2.2 HN.out.2.2.2, at_mod A2.out.2.1 HW.out.2.2 HN.out.2.1⟩
  have hn1 : (Tree.node b k v h l l2).blocks.Nodup := (Tree.nd_node (((Tree.turnR_perm (.node b k v h l (.node b2 k2 v2 h2 l2 r2))).nodup_iff).2 HN0.out)).2.2.1
  refine (measure_calls hA1 hn1 (by omega) (by omega) (by omega) (by omega)).mono ?_
  rintro e W2 ⟨rfl, hB, hM⟩
  have HB := Lib.hid (And.intro hB (And.intro hM (And.intro hA1 hn1)))
  clear hB hM hA1 hn1
  go_wp2_with fail
  have hA2 : At W2.heap (.node b2 k2 v2 h2 (Tree.node b k v h l l2).measure r2) := by
    exact ⟨HB.out.2.1.at_ HW.out.2.1 (by simp only [List.mem_singleton]; exact hne'), HB.out.1, at_mod (at_mod A2.out.1 HW.out.2.2 HN.out.2.2.1) HB.out.2.1 (fun x hx hm => HN.out.2.2.1 x hx (by simp only [List.mem_singleton] at hm; simp [hm]))⟩
  have hn2 : (Tree.node b2 k2 v2 h2 (Tree.node b k v h l l2).measure r2).blocks.Nodup := by
    exact ((Tree.turnR_perm (.node b k v h l (.node b2 k2 v2 h2 l2 r2))).nodup_iff).2 HN0.out
  have hh : (Tree.node b k v h l l2).measure.height = 1 + max l.height l2.height := rfl
  have hx : 0 ≤ max l.height l2.height ∧ max l.height l2.height ≤ 100000000000 := by omega
  refine (measure_calls hA2 hn2 (by rw [hh]; omega) (by rw [hh]; omega) (by omega) (by omega)).mono ?_
  rintro e W3 ⟨rfl, hC, hM3⟩
  have HC := Lib.hid (And.intro hC hM3)
  clear hC hM3 hA2 hn2 hh hx
  go_wp2
  go_ret
  refine ⟨rfl, HC.out.1, ((HW.out.2.2.trans HB.out.2.1 (by simp)).trans HC.out.2 (by simp))⟩
theorem turnL_calls {W : World} {b : Nat} {k : ByteArray} {v : S105} {h : Int} {l r : Tree S105} (hA : At W.heap (.node b k v h l r)) (hn : (Tree.node b k v h l r).blocks.Nodup) (gl : l.Good) (gr : r.Good)
    (hs : (Tree.node b k v h l r).size ≤ 100000000000) (hl : l ≠ .nil) :
    Calls Try.prog 117 #[.pointer (some ⟨b, 0, none⟩), .bool true] W fun e W' => e = .returned (.pointer (addr (Tree.node b k v h l r).turnL)) ∧ At W'.heap (Tree.node b k v h l r).turnL ∧ Mod W W' (Tree.node b k v h l r).blocks := by
  cases l with
  | nil => exact absurd rfl hl
  | node b2 k2 v2 h2 l2 r2 =>
    have a1 := Tree.height_good gl.2.1
    have a2 := Tree.height_good gl.2.2
    have a3 := Tree.height_good gr
    simp only [Tree.size] at hs
    refine (turnL_walk hA hn a1.1 (by omega) a2.1 (by omega) a3.1 (by omega)).mono ?_
    rintro e W' ⟨rfl, h1, h2⟩
    exact ⟨rfl, h1, h2.mono (fun x hx => .inl (by simp only [List.mem_cons, List.not_mem_nil, or_false] at hx; rcases hx with rfl | rfl <;> simp [Tree.blocks]))⟩
theorem turnR_calls {W : World} {b : Nat} {k : ByteArray} {v : S105} {h : Int} {l r : Tree S105} (hA : At W.heap (.node b k v h l r)) (hn : (Tree.node b k v h l r).blocks.Nodup) (gl : l.Good) (gr : r.Good)
    (hs : (Tree.node b k v h l r).size ≤ 100000000000) (hr : r ≠ .nil) :
    Calls Try.prog 117 #[.pointer (some ⟨b, 0, none⟩), .bool false] W fun e W' => e = .returned (.pointer (addr (Tree.node b k v h l r).turnR)) ∧ At W'.heap (Tree.node b k v h l r).turnR ∧ Mod W W' (Tree.node b k v h l r).blocks := by
  cases r with
  | nil => exact absurd rfl hr
  | node b2 k2 v2 h2 l2 r2 =>
    have a1 := Tree.height_good gr.2.1
    have a2 := Tree.height_good gr.2.2
    have a3 := Tree.height_good gl
    simp only [Tree.size] at hs
    refine (turnR_walk hA hn a1.1 (by omega) a2.1 (by omega) a3.1 (by omega)).mono ?_
    rintro e W' ⟨rfl, h1, h2⟩
    exact ⟨rfl, h1, h2.mono (fun x hx => .inl (by simp only [List.mem_cons, List.not_mem_nil, or_false] at hx; rcases hx with rfl | rfl <;> simp [Tree.blocks]))⟩
theorem wrap_d {a c : Int} (a0 : 0 ≤ a) (a1 : a ≤ 100000000000) (c0 : 0 ≤ c) (c1 : c ≤ 100000000000) : IntKind.i64.wrap (a - c) = a - c := by
  simp only [IntKind.wrap, IntKind.signed, IntKind.bits]
  simp
  omega
/-- The rest of 'even' behind 'measure', where nothing is to be turned. -/
theorem even_plain {W : World} {b : Nat} {k : ByteArray} {v : S105} {h : Int} {l r : Tree S105} (hA : At W.heap (.node b k v h l r)) (hn : (Tree.node b k v h l r).blocks.Nodup) (gl : l.Good) (gr : r.Good)
    (hs : (Tree.node b k v h l r).size ≤ 100000000000) (hd1 : ¬ l.height - r.height > 1) (hd2 : ¬ l.height - r.height < -1) :
    Calls Try.prog 100 #[.pointer (some ⟨b, 0, none⟩)] W fun e W' => e = .returned (.pointer (addr (Tree.node b k v h l r).even)) ∧ At W'.heap (Tree.node b k v h l r).even ∧ Mod W W' (Tree.node b k v h l r).blocks := by
  have a1 := Tree.height_good gl
  have a2 := Tree.height_good gr
  simp only [Tree.size] at hs
  have he : (Tree.node b k v h l r).even = Tree.node b k v (1 + max l.height r.height) l r := by
    rw [Tree.even_node, if_neg hd1, if_neg hd2]
  rw [he]
  obtain ⟨l0, l1, _⟩ := a1
  obtain ⟨r0, r1, _⟩ := a2
  have c1 : l.height ≤ 100000000000 := by omega
  have c2 : r.height ≤ 100000000000 := by omega
  have t1 : decide (1 < l.height - r.height) = false := decide_eq_false hd1
  have t2 : decide (l.height - r.height < -1) = false := decide_eq_false hd2
  have HN := Lib.hid hn
  have HA := Lib.hid hA
  have GG := Lib.hid (And.intro gl gr)
  clear hn hA gl gr he l1 r1 hs hd1 hd2
  go_enter Try.func100, Try.ntmps100
  go_wp2_with fail
  refine (measure_calls HA.out HN.out l0 (by omega) r0 (by omega)).mono ?_
  rintro e W1 ⟨rfl, hB, hM⟩
  have hc3 : W1.cell? ⟨b, 7, none⟩ = some (.pointer (addr l)) := (blk_cell hB.1 7).trans rfl
  have hc4 : W1.cell? ⟨b, 8, none⟩ = some (.pointer (addr r)) := (blk_cell hB.1 8).trans rfl
  have HB := Lib.hid (And.intro hB hM)
  clear hB hM
  have hw := wrap_d l0 c1 r0 c2
  go_wp2_with fail
  go_quiet ((go_at_call 116; refine Calls.quiet_of_same (height_calls ?_); first | exact HB.out.1.2.1 | exact HB.out.1.2.2))
  go_wp2
  go_ret
  exact ⟨rfl, HB.out.1, (HB.out.2.drewN _).mono (fun x hx => .inl (by simp only [List.mem_singleton] at hx; simp [Tree.blocks, hx]))⟩
theorem even_left1 {W : World} {b b2 : Nat} {k k2 : ByteArray} {v : S105} {h : Int} {v2 : S105} {h2 : Int} {l2 r2 r : Tree S105} (hA : At W.heap (.node b k v h (.node b2 k2 v2 h2 l2 r2) r)) (hn : (Tree.node b k v h (.node b2 k2 v2 h2 l2 r2) r).blocks.Nodup) (gl : (Tree.node b2 k2 v2 h2 l2 r2).Good) (gr : r.Good)
    (hs : (Tree.node b k v h (.node b2 k2 v2 h2 l2 r2) r).size ≤ 100000000000) (hd1 : h2 - r.height > 1) (hd2 : ¬ l2.height < r2.height) :
    Calls Try.prog 100 #[.pointer (some ⟨b, 0, none⟩)] W fun e W' => e = .returned (.pointer (addr (Tree.node b k v h (.node b2 k2 v2 h2 l2 r2) r).even)) ∧ At W'.heap (Tree.node b k v h (.node b2 k2 v2 h2 l2 r2) r).even ∧ Mod W W' (Tree.node b k v h (.node b2 k2 v2 h2 l2 r2) r).blocks := by
  have a1 := Tree.height_good gl
  have a2 := Tree.height_good gr
  have a3 := Tree.height_good gl.2.1
  have a4 := Tree.height_good gl.2.2
  have hs0 := hs
  simp only [Tree.size] at hs a1
  simp only [Tree.height] at a1
  have he : (Tree.node b k v h (.node b2 k2 v2 h2 l2 r2) r).even = (Tree.node b k v (1 + max h2 r.height) (.node b2 k2 v2 h2 l2 r2) r).turnL := by
    rw [Tree.even_node, Tree.height_node, Tree.left_node, Tree.right_node, if_pos hd1, if_neg hd2]
  rw [he]
  have l0 := a1.1
  have r0 := a2.1
  have m0 := a3.1
  have n0 := a4.1
  have c1 : h2 ≤ 100000000000 := by omega
  have c2 : r.height ≤ 100000000000 := by omega
  have c3 : l2.height ≤ 100000000000 := by omega
  have c4 : r2.height ≤ 100000000000 := by omega
  have t1 : decide (1 < h2 - r.height) = true := decide_eq_true hd1
  have t3 : decide (l2.height < r2.height) = false := decide_eq_false hd2
  have HN := Lib.hid hn
  have HA := Lib.hid hA
  have GG := Lib.hid (And.intro gl (And.intro gr hs0))
  clear hn hA gl gr he hs hs0 hd1 hd2 a1 a2 a3 a4
  go_enter Try.func100, Try.ntmps100
  go_wp2_with fail
  refine (measure_calls HA.out HN.out l0 (show h2 ≤ _ by omega) r0 (by omega)).mono ?_
  rintro e W1 ⟨rfl, hB, hM⟩
  have hc3 : W1.cell? ⟨b, 7, none⟩ = some (.pointer (some ⟨b2, 0, none⟩)) := (blk_cell hB.1 7).trans rfl
  have hc4 : W1.cell? ⟨b, 8, none⟩ = some (.pointer (addr r)) := (blk_cell hB.1 8).trans rfl
  have hd2 : W1.cell? ⟨b2, 6, none⟩ = some (.int .i64 h2) := (blk_cell hB.2.1.1 6).trans rfl
  have hd3 : W1.cell? ⟨b2, 7, none⟩ = some (.pointer (addr l2)) := (blk_cell hB.2.1.1 7).trans rfl
  have hd4 : W1.cell? ⟨b2, 8, none⟩ = some (.pointer (addr r2)) := (blk_cell hB.2.1.1 8).trans rfl
  have HB := Lib.hid (And.intro hB hM)
  clear hB hM
  have hw := wrap_d l0 c1 r0 c2
  go_wp2_with fail
  go_quiet ((first | (go_at_call 116; (with_reducible refine Calls.quiet_of_same (height_node_calls (b := b2) (k := k2) (v := v2) (h := h2) (l := l2) (r := r2) ?_)); exact HB.out.1.2.1.1) | (go_at_call 116; (with_reducible refine Calls.quiet_of_same (height_calls (t := r) ?_)); exact HB.out.1.2.2)))
  have HB2 := Lib.hid (And.intro (show At (W1.drewN nq).heap _ from HB.out.1) (HB.out.2.drewN nq))
  replace hc3 : (W1.drewN nq).cell? ⟨b, 7, none⟩ = some (.pointer (some ⟨b2, 0, none⟩)) := hc3
  replace hc4 : (W1.drewN nq).cell? ⟨b, 8, none⟩ = some (.pointer (addr r)) := hc4
  replace hd2 : (W1.drewN nq).cell? ⟨b2, 6, none⟩ = some (.int .i64 h2) := hd2
  replace hd3 : (W1.drewN nq).cell? ⟨b2, 7, none⟩ = some (.pointer (addr l2)) := hd3
  replace hd4 : (W1.drewN nq).cell? ⟨b2, 8, none⟩ = some (.pointer (addr r2)) := hd4
  clear HB
  generalize W1.drewN nq = W2 at *
  go_wp2_with fail
  go_quiet ((first | (go_at_call 116; (with_reducible refine Calls.quiet_of_same (height_calls (t := l2) ?_)); exact HB2.out.1.2.1.2.1) | (go_at_call 116; (with_reducible refine Calls.quiet_of_same (height_calls (t := r2) ?_)); exact HB2.out.1.2.1.2.2)))
  have HB3 := Lib.hid (And.intro (show At (W2.drewN nq).heap _ from HB2.out.1) (HB2.out.2.drewN nq))
  clear HB2 hc3 hc4 hd2 hd3 hd4
  generalize W2.drewN nq = W3 at *
  go_wp2_with fail
  refine (turnL_calls (k := k) (v := v) (h := 1 + max h2 r.height) (l := .node b2 k2 v2 h2 l2 r2) (r := r) HB3.out.1 HN.out GG.out.1 GG.out.2.1 GG.out.2.2 (by simp)).mono ?_
  rintro e W4 ⟨rfl, hC, hM3⟩
  have HC := Lib.hid (And.intro hC hM3)
  clear hC hM3
  go_wp2
  go_ret
  refine ⟨rfl, HC.out.1, (HB3.out.2.mono (fp' := (Tree.node b k v h (.node b2 k2 v2 h2 l2 r2) r).blocks) (fun x hx => .inl (by simp only [List.mem_singleton] at hx; simp [Tree.blocks, hx]))).trans HC.out.2 (fun x hx => .inl hx)⟩
theorem even_left2 {W : World} {b b2 : Nat} {k k2 : ByteArray} {v : S105} {h : Int} {v2 : S105} {h2 : Int} {l2 r2 r : Tree S105} (hA : At W.heap (.node b k v h (.node b2 k2 v2 h2 l2 r2) r)) (hn : (Tree.node b k v h (.node b2 k2 v2 h2 l2 r2) r).blocks.Nodup) (gl : (Tree.node b2 k2 v2 h2 l2 r2).Good) (gr : r.Good)
    (hs : (Tree.node b k v h (.node b2 k2 v2 h2 l2 r2) r).size ≤ 100000000000) (hd1 : h2 - r.height > 1) (hd2 : l2.height < r2.height) :
    Calls Try.prog 100 #[.pointer (some ⟨b, 0, none⟩)] W fun e W' => e = .returned (.pointer (addr (Tree.node b k v h (.node b2 k2 v2 h2 l2 r2) r).even)) ∧ At W'.heap (Tree.node b k v h (.node b2 k2 v2 h2 l2 r2) r).even ∧ Mod W W' (Tree.node b k v h (.node b2 k2 v2 h2 l2 r2) r).blocks := by
  have a1 := Tree.height_good gl
  have a2 := Tree.height_good gr
  have a3 := Tree.height_good gl.2.1
  have a4 := Tree.height_good gl.2.2
  have hs0 := hs
  simp only [Tree.size] at hs a1
  simp only [Tree.height] at a1
  have he : (Tree.node b k v h (.node b2 k2 v2 h2 l2 r2) r).even = (Tree.node b k v (1 + max h2 r.height) (Tree.node b2 k2 v2 h2 l2 r2).turnR r).turnL := by
    rw [Tree.even_node, Tree.height_node, Tree.left_node, Tree.right_node, if_pos hd1, if_pos hd2]
  rw [he]
  have l0 := a1.1
  have r0 := a2.1
  have m0 := a3.1
  have n0 := a4.1
  have c1 : h2 ≤ 100000000000 := by omega
  have c2 : r.height ≤ 100000000000 := by omega
  have c3 : l2.height ≤ 100000000000 := by omega
  have c4 : r2.height ≤ 100000000000 := by omega
  have t1 : decide (1 < h2 - r.height) = true := decide_eq_true hd1
  have t3 : decide (l2.height < r2.height) = true := decide_eq_true hd2
  have HN := Lib.hid hn
  have HA := Lib.hid hA
  have GG := Lib.hid (And.intro gl (And.intro gr hs0))
  have GD := Lib.hid (Tree.ne_of_height (t := r2) gl.2.2 (by omega))
  clear hn hA gl gr he hs hs0 hd1 hd2 a1 a2 a3 a4
  go_enter Try.func100, Try.ntmps100
  go_wp2_with fail
  refine (measure_calls HA.out HN.out l0 (show h2 ≤ _ by omega) r0 (by omega)).mono ?_
  rintro e W1 ⟨rfl, hB, hM⟩
  have hc3 : W1.cell? ⟨b, 7, none⟩ = some (.pointer (some ⟨b2, 0, none⟩)) := (blk_cell hB.1 7).trans rfl
  have hc4 : W1.cell? ⟨b, 8, none⟩ = some (.pointer (addr r)) := (blk_cell hB.1 8).trans rfl
  have hd2 : W1.cell? ⟨b2, 6, none⟩ = some (.int .i64 h2) := (blk_cell hB.2.1.1 6).trans rfl
  have hd3 : W1.cell? ⟨b2, 7, none⟩ = some (.pointer (addr l2)) := (blk_cell hB.2.1.1 7).trans rfl
  have hd4 : W1.cell? ⟨b2, 8, none⟩ = some (.pointer (addr r2)) := (blk_cell hB.2.1.1 8).trans rfl
  have hf3 := blk_frozen hB.1 7
  have HB := Lib.hid (And.intro hB hM)
  clear hB hM
  have hw := wrap_d l0 c1 r0 c2
  go_wp2_with fail
  go_quiet ((first | (go_at_call 116; (with_reducible refine Calls.quiet_of_same (height_node_calls (b := b2) (k := k2) (v := v2) (h := h2) (l := l2) (r := r2) ?_)); exact HB.out.1.2.1.1) | (go_at_call 116; (with_reducible refine Calls.quiet_of_same (height_calls (t := r) ?_)); exact HB.out.1.2.2)))
  have HB2 := Lib.hid (And.intro (show At (W1.drewN nq).heap _ from HB.out.1) (HB.out.2.drewN nq))
  replace hc3 : (W1.drewN nq).cell? ⟨b, 7, none⟩ = some (.pointer (some ⟨b2, 0, none⟩)) := hc3
  replace hc4 : (W1.drewN nq).cell? ⟨b, 8, none⟩ = some (.pointer (addr r)) := hc4
  replace hd2 : (W1.drewN nq).cell? ⟨b2, 6, none⟩ = some (.int .i64 h2) := hd2
  replace hd3 : (W1.drewN nq).cell? ⟨b2, 7, none⟩ = some (.pointer (addr l2)) := hd3
  replace hd4 : (W1.drewN nq).cell? ⟨b2, 8, none⟩ = some (.pointer (addr r2)) := hd4
  replace hf3 : (W1.drewN nq).frozen? ⟨b, 7, none⟩ = false := hf3
  clear HB
  generalize W1.drewN nq = W2 at *
  go_wp2_with fail
  go_quiet ((first | (go_at_call 116; (with_reducible refine Calls.quiet_of_same (height_calls (t := l2) ?_)); exact HB2.out.1.2.1.2.1) | (go_at_call 116; (with_reducible refine Calls.quiet_of_same (height_calls (t := r2) ?_)); exact HB2.out.1.2.1.2.2)))
  have HB3 := Lib.hid (And.intro (show At (W2.drewN nq).heap _ from HB2.out.1) (HB2.out.2.drewN nq))
  replace hc3 : (W2.drewN nq).cell? ⟨b, 7, none⟩ = some (.pointer (some ⟨b2, 0, none⟩)) := hc3
  replace hf3 : (W2.drewN nq).frozen? ⟨b, 7, none⟩ = false := hf3
  clear HB2 hc4 hd2 hd3 hd4
  generalize W2.drewN nq = W3 at *
  go_wp2_with fail
  refine (turnR_calls (k := k2) (v := v2) (h := h2) (l := l2) (r := r2) HB3.out.1.2.1 (Tree.nd_node HN.out).2.2.1 GG.out.1.2.1 GG.out.1.2.2 (by have := GG.out.2.2; simp only [Tree.size] at this ⊢; omega) GD.out).mono ?_
  rintro e W4 ⟨rfl, hC, hM3⟩
  have hb4 := hM3.at_ HB3.out.1.1 (Tree.nd_node HN.out).1
  replace hc3 : W4.cell? ⟨b, 7, none⟩ = some (.pointer (some ⟨b2, 0, none⟩)) := (blk_cell hb4 7).trans rfl
  replace hf3 := blk_frozen hb4 7
  have hgood : (Tree.node b2 k2 v2 h2 l2 r2).turnR.Good := Tree.turnR_good GG.out.1
  have hperm := Tree.turnR_perm (Tree.node b2 k2 v2 h2 l2 r2)
  have hmem : ∀ x ∈ (Tree.node b2 k2 v2 h2 l2 r2).turnR.blocks, x ∈ (Tree.node b2 k2 v2 h2 l2 r2).blocks := fun x hx => hperm.mem_iff.1 hx
  have hne : (Tree.node b2 k2 v2 h2 l2 r2).turnR ≠ .nil := Tree.turnR_ne (by simp)
  have hsz : (Tree.node b2 k2 v2 h2 l2 r2).turnR.size = (Tree.node b2 k2 v2 h2 l2 r2).size := by
    rw [← Tree.size_blocks, ← Tree.size_blocks]; exact hperm.length_eq
  have hr4 := at_mod HB3.out.1.2.2 hM3 (fun x hx hm => (Tree.nd_node HN.out).2.2.2.2.2 x hx hm)
  have HC := Lib.hid (And.intro hC (And.intro hM3 (And.intro hb4 (And.intro hgood (And.intro hmem (And.intro hne (And.intro hr4 (And.intro hperm hsz))))))))
  clear hC hM3 hb4 hgood hperm hmem hne hr4 hsz
  generalize hL : (Tree.node b2 k2 v2 h2 l2 r2).turnR = L at *
  have HL := Lib.hid hL
  clear hL
  go_wp2_with fail
  obtain ⟨C1, C2, C3, C4, C5, C6, C7, C8, C9⟩ := HC.out
  have nb := Tree.nd_node HN.out
  have M5 : Mod W4 (W4.setCell ⟨b, 7, none⟩ (.pointer (addr L))) [b] := (Mod.refl W4 [b]).setCell (.inl (by simp)) _
  have A5 : At (W4.setCell ⟨b, 7, none⟩ (.pointer (addr L))).heap (.node b k v (1 + max h2 r.height) L r) :=
    ⟨blk_put C3 7 _ rfl, at_mod C1 M5 (fun x hx hm => by simp only [List.mem_singleton] at hm; subst hm; exact nb.1 (C5 x hx)), at_mod C7 M5 (fun x hx hm => by simp only [List.mem_singleton] at hm; subst hm; exact nb.2.1 hx)⟩
  have P5 : (Tree.node b k v (1 + max h2 r.height) L r).blocks.Perm (Tree.node b k v h (.node b2 k2 v2 h2 l2 r2) r).blocks := by
    refine Tree.perm_of_count fun a => ?_
    have := List.perm_iff_count.1 C8 a
    simp only [Tree.blocks, List.count_cons, List.count_append] at this ⊢
    omega
  have N5 := P5.nodup_iff.2 HN.out
  refine (turnL_calls A5 N5 C4 GG.out.2.1 (by have := GG.out.2.2; simp only [Tree.size] at this C9 ⊢; omega) C6).mono ?_
  rintro e W6 ⟨rfl, hC, hM6⟩
  have HD := Lib.hid (And.intro hC (And.intro hM6 (And.intro M5 (And.intro P5 C2))))
  clear hC hM6 M5 A5 P5 N5 nb C1 C2 C3 C4 C5 C6 C7 C8 C9
  go_wp2
  have hL := HL.out
  subst hL
  go_ret
  refine ⟨rfl, HD.out.1, ?_⟩
  have B0 : Mod W W3 (Tree.node b k v h (.node b2 k2 v2 h2 l2 r2) r).blocks := HB3.out.2.mono (fun x hx => .inl (by simp only [List.mem_singleton] at hx; simp [Tree.blocks, hx]))
  exact ((B0.trans HD.out.2.2.2.2 (fun x hx => .inl (by simp only [Tree.blocks, List.mem_cons, List.mem_append] at hx ⊢; exact .inr (.inl hx)))).trans HD.out.2.2.1 (fun x hx => .inl (by simp only [List.mem_singleton] at hx; simp [Tree.blocks, hx]))).trans HD.out.2.1 (fun x hx => .inl (HD.out.2.2.2.1.mem_iff.1 hx))
theorem even_right1 {W : World} {b b2 : Nat} {k k2 : ByteArray} {v : S105} {h : Int} {v2 : S105} {h2 : Int} {l l2 r2 : Tree S105} (hA : At W.heap (.node b k v h l (.node b2 k2 v2 h2 l2 r2))) (hn : (Tree.node b k v h l (.node b2 k2 v2 h2 l2 r2)).blocks.Nodup) (gl : l.Good) (gr : (Tree.node b2 k2 v2 h2 l2 r2).Good)
    (hs : (Tree.node b k v h l (.node b2 k2 v2 h2 l2 r2)).size ≤ 100000000000) (hd0 : ¬ l.height - h2 > 1) (hd1 : l.height - h2 < -1) (hd2 : ¬ r2.height < l2.height) :
    Calls Try.prog 100 #[.pointer (some ⟨b, 0, none⟩)] W fun e W' => e = .returned (.pointer (addr (Tree.node b k v h l (.node b2 k2 v2 h2 l2 r2)).even)) ∧ At W'.heap (Tree.node b k v h l (.node b2 k2 v2 h2 l2 r2)).even ∧ Mod W W' (Tree.node b k v h l (.node b2 k2 v2 h2 l2 r2)).blocks := by
  have a1 := Tree.height_good gr
  have a2 := Tree.height_good gl
  have a3 := Tree.height_good gr.2.1
  have a4 := Tree.height_good gr.2.2
  have hs0 := hs
  simp only [Tree.size] at hs a1
  simp only [Tree.height] at a1
  have he : (Tree.node b k v h l (.node b2 k2 v2 h2 l2 r2)).even = (Tree.node b k v (1 + max l.height h2) l (.node b2 k2 v2 h2 l2 r2)).turnR := by
    rw [Tree.even_node, Tree.height_node, Tree.left_node, Tree.right_node, if_neg hd0, if_pos hd1, if_neg hd2]
  rw [he]
  have l0 := a1.1
  have r0 := a2.1
  have m0 := a3.1
  have n0 := a4.1
  have c1 : h2 ≤ 100000000000 := by omega
  have c2 : l.height ≤ 100000000000 := by omega
  have c3 : l2.height ≤ 100000000000 := by omega
  have c4 : r2.height ≤ 100000000000 := by omega
  have t0 : decide (1 < l.height - h2) = false := decide_eq_false hd0
  have t1 : decide (l.height - h2 < -1) = true := decide_eq_true hd1
  have t3 : decide (r2.height < l2.height) = false := decide_eq_false hd2
  have HN := Lib.hid hn
  have HA := Lib.hid hA
  have GG := Lib.hid (And.intro gl (And.intro gr hs0))
  clear hn hA gl gr he hs hs0 hd0 hd1 hd2 a1 a2 a3 a4
  go_enter Try.func100, Try.ntmps100
  go_wp2_with fail
  refine (measure_calls HA.out HN.out r0 (by omega) l0 (show h2 ≤ _ by omega)).mono ?_
  rintro e W1 ⟨rfl, hB, hM⟩
  have hc4 : W1.cell? ⟨b, 8, none⟩ = some (.pointer (some ⟨b2, 0, none⟩)) := (blk_cell hB.1 8).trans rfl
  have hc3 : W1.cell? ⟨b, 7, none⟩ = some (.pointer (addr l)) := (blk_cell hB.1 7).trans rfl
  have hd2 : W1.cell? ⟨b2, 6, none⟩ = some (.int .i64 h2) := (blk_cell hB.2.2.1 6).trans rfl
  have hd3 : W1.cell? ⟨b2, 7, none⟩ = some (.pointer (addr l2)) := (blk_cell hB.2.2.1 7).trans rfl
  have hd4 : W1.cell? ⟨b2, 8, none⟩ = some (.pointer (addr r2)) := (blk_cell hB.2.2.1 8).trans rfl
  have HB := Lib.hid (And.intro hB hM)
  clear hB hM
  have hw := wrap_d r0 c2 l0 c1
  go_wp2_with fail
  go_quiet ((first | (go_at_call 116; (with_reducible refine Calls.quiet_of_same (height_node_calls (b := b2) (k := k2) (v := v2) (h := h2) (l := l2) (r := r2) ?_)); exact HB.out.1.2.2.1) | (go_at_call 116; (with_reducible refine Calls.quiet_of_same (height_calls (t := l) ?_)); exact HB.out.1.2.1)))
  have HB2 := Lib.hid (And.intro (show At (W1.drewN nq).heap _ from HB.out.1) (HB.out.2.drewN nq))
  replace hc4 : (W1.drewN nq).cell? ⟨b, 8, none⟩ = some (.pointer (some ⟨b2, 0, none⟩)) := hc4
  replace hc3 : (W1.drewN nq).cell? ⟨b, 7, none⟩ = some (.pointer (addr l)) := hc3
  replace hd2 : (W1.drewN nq).cell? ⟨b2, 6, none⟩ = some (.int .i64 h2) := hd2
  replace hd3 : (W1.drewN nq).cell? ⟨b2, 7, none⟩ = some (.pointer (addr l2)) := hd3
  replace hd4 : (W1.drewN nq).cell? ⟨b2, 8, none⟩ = some (.pointer (addr r2)) := hd4
  clear HB
  generalize W1.drewN nq = W2 at *
  go_wp2_with fail
  go_quiet ((first | (go_at_call 116; (with_reducible refine Calls.quiet_of_same (height_calls (t := l2) ?_)); exact HB2.out.1.2.2.2.1) | (go_at_call 116; (with_reducible refine Calls.quiet_of_same (height_calls (t := r2) ?_)); exact HB2.out.1.2.2.2.2)))
  have HB3 := Lib.hid (And.intro (show At (W2.drewN nq).heap _ from HB2.out.1) (HB2.out.2.drewN nq))
  clear HB2 hc3 hc4 hd2 hd3 hd4
  generalize W2.drewN nq = W3 at *
  go_wp2_with fail
  refine (turnR_calls (k := k) (v := v) (h := 1 + max l.height h2) (l := l) (r := .node b2 k2 v2 h2 l2 r2) HB3.out.1 HN.out GG.out.1 GG.out.2.1 GG.out.2.2 (by simp)).mono ?_
  rintro e W4 ⟨rfl, hC, hM3⟩
  have HC := Lib.hid (And.intro hC hM3)
  clear hC hM3
  go_wp2
  go_ret
  refine ⟨rfl, HC.out.1, (HB3.out.2.mono (fp' := (Tree.node b k v h l (.node b2 k2 v2 h2 l2 r2)).blocks) (fun x hx => .inl (by simp only [List.mem_singleton] at hx; simp [Tree.blocks, hx]))).trans HC.out.2 (fun x hx => .inl hx)⟩
theorem even_right2 {W : World} {b b2 : Nat} {k k2 : ByteArray} {v : S105} {h : Int} {v2 : S105} {h2 : Int} {l l2 r2 : Tree S105} (hA : At W.heap (.node b k v h l (.node b2 k2 v2 h2 l2 r2))) (hn : (Tree.node b k v h l (.node b2 k2 v2 h2 l2 r2)).blocks.Nodup) (gl : l.Good) (gr : (Tree.node b2 k2 v2 h2 l2 r2).Good)
    (hs : (Tree.node b k v h l (.node b2 k2 v2 h2 l2 r2)).size ≤ 100000000000) (hd0 : ¬ l.height - h2 > 1) (hd1 : l.height - h2 < -1) (hd2 : r2.height < l2.height) :
    Calls Try.prog 100 #[.pointer (some ⟨b, 0, none⟩)] W fun e W' => e = .returned (.pointer (addr (Tree.node b k v h l (.node b2 k2 v2 h2 l2 r2)).even)) ∧ At W'.heap (Tree.node b k v h l (.node b2 k2 v2 h2 l2 r2)).even ∧ Mod W W' (Tree.node b k v h l (.node b2 k2 v2 h2 l2 r2)).blocks := by
  have a1 := Tree.height_good gr
  have a2 := Tree.height_good gl
  have a3 := Tree.height_good gr.2.1
  have a4 := Tree.height_good gr.2.2
  have hs0 := hs
  simp only [Tree.size] at hs a1
  simp only [Tree.height] at a1
  have he : (Tree.node b k v h l (.node b2 k2 v2 h2 l2 r2)).even = (Tree.node b k v (1 + max l.height h2) l (Tree.node b2 k2 v2 h2 l2 r2).turnL).turnR := by
    rw [Tree.even_node, Tree.height_node, Tree.left_node, Tree.right_node, if_neg hd0, if_pos hd1, if_pos hd2]
  rw [he]
  have l0 := a1.1
  have r0 := a2.1
  have m0 := a3.1
  have n0 := a4.1
  have c1 : h2 ≤ 100000000000 := by omega
  have c2 : l.height ≤ 100000000000 := by omega
  have c3 : l2.height ≤ 100000000000 := by omega
  have c4 : r2.height ≤ 100000000000 := by omega
  have t0 : decide (1 < l.height - h2) = false := decide_eq_false hd0
  have t1 : decide (l.height - h2 < -1) = true := decide_eq_true hd1
  have t3 : decide (r2.height < l2.height) = true := decide_eq_true hd2
  have HN := Lib.hid hn
  have HA := Lib.hid hA
  have GG := Lib.hid (And.intro gl (And.intro gr hs0))
  have GD := Lib.hid (Tree.ne_of_height (t := l2) gr.2.1 (by omega))
  clear hn hA gl gr he hs hs0 hd0 hd1 hd2 a1 a2 a3 a4
  go_enter Try.func100, Try.ntmps100
  go_wp2_with fail
  refine (measure_calls HA.out HN.out r0 (by omega) l0 (show h2 ≤ _ by omega)).mono ?_
  rintro e W1 ⟨rfl, hB, hM⟩
  have hc4 : W1.cell? ⟨b, 8, none⟩ = some (.pointer (some ⟨b2, 0, none⟩)) := (blk_cell hB.1 8).trans rfl
  have hc3 : W1.cell? ⟨b, 7, none⟩ = some (.pointer (addr l)) := (blk_cell hB.1 7).trans rfl
  have hd2 : W1.cell? ⟨b2, 6, none⟩ = some (.int .i64 h2) := (blk_cell hB.2.2.1 6).trans rfl
  have hd3 : W1.cell? ⟨b2, 7, none⟩ = some (.pointer (addr l2)) := (blk_cell hB.2.2.1 7).trans rfl
  have hd4 : W1.cell? ⟨b2, 8, none⟩ = some (.pointer (addr r2)) := (blk_cell hB.2.2.1 8).trans rfl
  have hf4 := blk_frozen hB.1 8
  have HB := Lib.hid (And.intro hB hM)
  clear hB hM
  have hw := wrap_d r0 c2 l0 c1
  go_wp2_with fail
  go_quiet ((first | (go_at_call 116; (with_reducible refine Calls.quiet_of_same (height_node_calls (b := b2) (k := k2) (v := v2) (h := h2) (l := l2) (r := r2) ?_)); exact HB.out.1.2.2.1) | (go_at_call 116; (with_reducible refine Calls.quiet_of_same (height_calls (t := l) ?_)); exact HB.out.1.2.1)))
  have HB2 := Lib.hid (And.intro (show At (W1.drewN nq).heap _ from HB.out.1) (HB.out.2.drewN nq))
  replace hc4 : (W1.drewN nq).cell? ⟨b, 8, none⟩ = some (.pointer (some ⟨b2, 0, none⟩)) := hc4
  replace hc3 : (W1.drewN nq).cell? ⟨b, 7, none⟩ = some (.pointer (addr l)) := hc3
  replace hd2 : (W1.drewN nq).cell? ⟨b2, 6, none⟩ = some (.int .i64 h2) := hd2
  replace hd3 : (W1.drewN nq).cell? ⟨b2, 7, none⟩ = some (.pointer (addr l2)) := hd3
  replace hd4 : (W1.drewN nq).cell? ⟨b2, 8, none⟩ = some (.pointer (addr r2)) := hd4
  replace hf4 : (W1.drewN nq).frozen? ⟨b, 8, none⟩ = false := hf4
  clear HB
  generalize W1.drewN nq = W2 at *
  go_wp2_with fail
  go_quiet ((first | (go_at_call 116; (with_reducible refine Calls.quiet_of_same (height_calls (t := l2) ?_)); exact HB2.out.1.2.2.2.1) | (go_at_call 116; (with_reducible refine Calls.quiet_of_same (height_calls (t := r2) ?_)); exact HB2.out.1.2.2.2.2)))
  have HB3 := Lib.hid (And.intro (show At (W2.drewN nq).heap _ from HB2.out.1) (HB2.out.2.drewN nq))
  replace hc4 : (W2.drewN nq).cell? ⟨b, 8, none⟩ = some (.pointer (some ⟨b2, 0, none⟩)) := hc4
  replace hf4 : (W2.drewN nq).frozen? ⟨b, 8, none⟩ = false := hf4
  clear HB2 hc3 hd2 hd3 hd4
  generalize W2.drewN nq = W3 at *
  go_wp2_with fail
  refine (turnL_calls (k := k2) (v := v2) (h := h2) (l := l2) (r := r2) HB3.out.1.2.2 (Tree.nd_node HN.out).2.2.2.1 GG.out.2.1.2.1 GG.out.2.1.2.2 (by have := GG.out.2.2; simp only [Tree.size] at this ⊢; omega) GD.out).mono ?_
  rintro e W4 ⟨rfl, hC, hM3⟩
  have hb4 := hM3.at_ HB3.out.1.1 (Tree.nd_node HN.out).2.1
  replace hc4 : W4.cell? ⟨b, 8, none⟩ = some (.pointer (some ⟨b2, 0, none⟩)) := (blk_cell hb4 8).trans rfl
  replace hf4 := blk_frozen hb4 8
  have hgood : (Tree.node b2 k2 v2 h2 l2 r2).turnL.Good := Tree.turnL_good GG.out.2.1
  have hperm := Tree.turnL_perm (Tree.node b2 k2 v2 h2 l2 r2)
  have hmem : ∀ x ∈ (Tree.node b2 k2 v2 h2 l2 r2).turnL.blocks, x ∈ (Tree.node b2 k2 v2 h2 l2 r2).blocks := fun x hx => hperm.mem_iff.1 hx
  have hne : (Tree.node b2 k2 v2 h2 l2 r2).turnL ≠ .nil := Tree.turnL_ne (by simp)
  have hsz : (Tree.node b2 k2 v2 h2 l2 r2).turnL.size = (Tree.node b2 k2 v2 h2 l2 r2).size := by
    rw [← Tree.size_blocks, ← Tree.size_blocks]; exact hperm.length_eq
  have hr4 := at_mod HB3.out.1.2.1 hM3 (fun x hx hm => (Tree.nd_node HN.out).2.2.2.2.1 x hx hm)
  have HC := Lib.hid (And.intro hC (And.intro hM3 (And.intro hb4 (And.intro hgood (And.intro hmem (And.intro hne (And.intro hr4 (And.intro hperm hsz))))))))
  clear hC hM3 hb4 hgood hperm hmem hne hr4 hsz
  generalize hL : (Tree.node b2 k2 v2 h2 l2 r2).turnL = L at *
  have HL := Lib.hid hL
  clear hL
  go_wp2_with fail
  obtain ⟨C1, C2, C3, C4, C5, C6, C7, C8, C9⟩ := HC.out
  have nb := Tree.nd_node HN.out
  have M5 : Mod W4 (W4.setCell ⟨b, 8, none⟩ (.pointer (addr L))) [b] := (Mod.refl W4 [b]).setCell (.inl (by simp)) _
  have A5 : At (W4.setCell ⟨b, 8, none⟩ (.pointer (addr L))).heap (.node b k v (1 + max l.height h2) l L) :=
    ⟨blk_put C3 8 _ rfl, at_mod C7 M5 (fun x hx hm => by simp only [List.mem_singleton] at hm; subst hm; exact nb.1 hx), at_mod C1 M5 (fun x hx hm => by simp only [List.mem_singleton] at hm; subst hm; exact nb.2.1 (C5 x hx))⟩
  have P5 : (Tree.node b k v (1 + max l.height h2) l L).blocks.Perm (Tree.node b k v h l (.node b2 k2 v2 h2 l2 r2)).blocks := by
    refine Tree.perm_of_count fun a => ?_
    have := List.perm_iff_count.1 C8 a
    simp only [Tree.blocks, List.count_cons, List.count_append] at this ⊢
    omega
  have N5 := P5.nodup_iff.2 HN.out
  refine (turnR_calls A5 N5 GG.out.1 C4 (by have := GG.out.2.2; simp only [Tree.size] at this C9 ⊢; omega) C6).mono ?_
  rintro e W6 ⟨rfl, hC, hM6⟩
  have HD := Lib.hid (And.intro hC (And.intro hM6 (And.intro M5 (And.intro P5 C2))))
  clear hC hM6 M5 A5 P5 N5 nb C1 C2 C3 C4 C5 C6 C7 C8 C9
  go_wp2
  have hL := HL.out
  subst hL
  go_ret
  refine ⟨rfl, HD.out.1, ?_⟩
  have B0 : Mod W W3 (Tree.node b k v h l (.node b2 k2 v2 h2 l2 r2)).blocks := HB3.out.2.mono (fun x hx => .inl (by simp only [List.mem_singleton] at hx; simp [Tree.blocks, hx]))
  exact ((B0.trans HD.out.2.2.2.2 (fun x hx => .inl (by simp only [Tree.blocks, List.mem_cons, List.mem_append] at hx ⊢; exact .inr (.inr hx)))).trans HD.out.2.2.1 (fun x hx => .inl (by simp only [List.mem_singleton] at hx; simp [Tree.blocks, hx]))).trans HD.out.2.1 (fun x hx => .inl (HD.out.2.2.2.1.mem_iff.1 hx))
theorem even_calls {W : World} {b : Nat} {k : ByteArray} {v : S105} {h : Int} {l r : Tree S105} (hA : At W.heap (.node b k v h l r)) (hn : (Tree.node b k v h l r).blocks.Nodup) (gl : l.Good) (gr : r.Good)
    (hs : (Tree.node b k v h l r).size ≤ 100000000000) :
    Calls Try.prog 100 #[.pointer (some ⟨b, 0, none⟩)] W fun e W' => e = .returned (.pointer (addr (Tree.node b k v h l r).even)) ∧ At W'.heap (Tree.node b k v h l r).even ∧ Mod W W' (Tree.node b k v h l r).blocks := by
  have a1 := Tree.height_good gl
  have a2 := Tree.height_good gr
  by_cases h1 : l.height - r.height > 1
  · cases l with
    | nil =>
      have e : (Tree.nil : Tree S105).height = 0 := rfl
      rw [e] at h1
      omega
    | node b2 k2 v2 h2 l2 r2 =>
      by_cases h2' : l2.height < r2.height
      · exact even_left2 hA hn gl gr hs h1 h2'
      · exact even_left1 hA hn gl gr hs h1 h2'
  · by_cases h2 : l.height - r.height < -1
    · cases r with
      | nil =>
        have e : (Tree.nil : Tree S105).height = 0 := rfl
        rw [e] at h2
        omega
      | node b2 k2 v2 h2' l2 r2 =>
        by_cases h3 : r2.height < l2.height
        · exact even_right2 hA hn gl gr hs h1 h2 h3
        · exact even_right1 hA hn gl gr hs h1 h2 h3
    · exact even_plain hA hn gl gr hs h1 h2
/-- The map's own block: the root and the number of keys. -/
def MapAt (H : Array Obj) (g : Nat) (a : Option Addr) (n : Int) : Prop := H[g]? = some (.cells #[.pointer a, .int .i64 n] 135 (0, 0))
theorem MapAt.lt {H : Array Obj} {g : Nat} {a : Option Addr} {n : Int} (h : MapAt H g a n) : g < H.size := (Array.getElem?_eq_some_iff.1 h).1
def SetPost (W : World) (g : Nat) (a : Option Addr) (n : Int) (t : Tree S105) (key : ByteArray) (x : S105) (e : Ending) (W' : World) : Prop :=
  ∃ nb, W.heap.size ≤ nb ∧ e = .returned (.pointer (addr (t.set key x nb))) ∧ At W'.heap (t.set key x nb) ∧ MapAt W'.heap g a (if t.has key = true then n else n + 1) ∧ Mod W W' (g :: t.blocks)
theorem SetPost.up {W V : World} {g : Nat} {a : Option Addr} {n : Int} {t : Tree S105} {key : ByteArray} {x : S105} {e : Ending} {W' : World} (h : SetPost V g a n t key x e W') (m : Mod W V []) : SetPost W g a n t key x e W' := by
  obtain ⟨nb, h1, h2, h3, h4, h5⟩ := h
  have := m.size
  exact ⟨nb, by omega, h2, h3, h4, (m.mono (fun _ hk => by cases hk)).trans h5 (fun k hk => .inl hk)⟩
def put5 (W : World) (g o : Nat) (x : S105) : World := ((((W.setCell ⟨g, o, none⟩ (.int .u32 x.f0.f0)).setCell ⟨g, o + 1, none⟩ (.int .u32 x.f0.f1)).setCell ⟨g, o + 2, none⟩ (.string x.f1.f0)).setCell ⟨g, o + 3, none⟩ (.string x.f1.f1)).setCell ⟨g, o + 4, none⟩ (.bool x.f1.f2)
theorem Mod.put5 {W W' : World} {fp : List Nat} (h : Mod W W' fp) {g : Nat} (hp : g ∈ fp ∨ W.heap.size ≤ g) (o : Nat) (x : S105) : Mod W (put5 W' g o x) fp := by
  unfold Lat.put5
  exact ((((h.setCell (p := ⟨g, o, none⟩) hp _).setCell (p := ⟨g, o + 1, none⟩) hp _).setCell (p := ⟨g, o + 2, none⟩) hp _).setCell (p := ⟨g, o + 3, none⟩) hp _).setCell (p := ⟨g, o + 4, none⟩) hp _
theorem node_put5 {W : World} {b : Nat} {k : ByteArray} {v x : S105} {h : Int} {l r : Tree S105} (hb : W.heap[b]? = some (.cells (cellsOf k v h l r) 137 (0, 0))) : (put5 W b 1 x).heap[b]? = some (.cells (cellsOf k x h l r) 137 (0, 0)) := by
  unfold put5 cellsOf
  refine blk_put (cs := #[.string k, .int .u32 x.f0.f0, .int .u32 x.f0.f1, .string x.f1.f0, .string x.f1.f1, .bool v.f1.f2, .int .i64 h, .pointer (addr l), .pointer (addr r)]) ?_ 5 _ rfl
  refine blk_put (cs := #[.string k, .int .u32 x.f0.f0, .int .u32 x.f0.f1, .string x.f1.f0, .string v.f1.f1, .bool v.f1.f2, .int .i64 h, .pointer (addr l), .pointer (addr r)]) ?_ 4 _ rfl
  refine blk_put (cs := #[.string k, .int .u32 x.f0.f0, .int .u32 x.f0.f1, .string v.f1.f0, .string v.f1.f1, .bool v.f1.f2, .int .i64 h, .pointer (addr l), .pointer (addr r)]) ?_ 3 _ rfl
  refine blk_put (cs := #[.string k, .int .u32 x.f0.f0, .int .u32 v.f0.f1, .string v.f1.f0, .string v.f1.f1, .bool v.f1.f2, .int .i64 h, .pointer (addr l), .pointer (addr r)]) ?_ 2 _ rfl
  refine blk_put (cs := #[.string k, .int .u32 v.f0.f0, .int .u32 v.f0.f1, .string v.f1.f0, .string v.f1.f1, .bool v.f1.f2, .int .i64 h, .pointer (addr l), .pointer (addr r)]) ?_ 1 _ rfl
  exact hb
theorem far_put5 {W : World} {b g : Nat} {o : Obj} (hb : W.heap[b]? = some o) (hn : b ≠ g) (k : Nat) (x : S105) : (put5 W g k x).heap[b]? = some o := (Mod.put5 (Mod.refl W [g]) (.inl (by simp)) k x).at_ hb (by simpa using hn)
theorem set_nil {W : World} {g : Nat} {a : Option Addr} {n : Int} (key : ByteArray) (x : S105) (hg : MapAt W.heap g a n) (n0 : 0 ≤ n) (n1 : n ≤ 10000000000) :
    Calls Try.prog 84 #[.pointer (some ⟨g, 0, none⟩), .pointer none, .string key, .agg #[.int .u32 x.f0.f0, .int .u32 x.f0.f1, .string x.f1.f0, .string x.f1.f1, .bool x.f1.f2]] W (SetPost W g a n .nil key x) := by
  have m1 := (Mod.refl W []).alloc (.cells #[.int .u32 x.f0.f0, .int .u32 x.f0.f1, .string x.f1.f0, .string x.f1.f1, .bool x.f1.f2] 105)
  have bx := blk_new W (.cells #[.int .u32 x.f0.f0, .int .u32 x.f0.f1, .string x.f1.f0, .string x.f1.f1, .bool x.f1.f2] 105)
  have hg1 : MapAt (W.alloc (.cells #[.int .u32 x.f0.f0, .int .u32 x.f0.f1, .string x.f1.f0, .string x.f1.f1, .bool x.f1.f2] 105)).heap g a n := m1.at_ hg (by simp)
  have UP : Hid (∀ e W', SetPost (W.alloc (.cells #[.int .u32 x.f0.f0, .int .u32 x.f0.f1, .string x.f1.f0, .string x.f1.f1, .bool x.f1.f2] 105)) g a n .nil key x e W' → SetPost W g a n .nil key x e W') := Lib.hid fun e W' h => h.up m1
  have hgq : g < W.heap.size := hg.lt
  clear m1 hg
  go_enter Try.func84, Try.ntmps84
  go_upto_region 3 with fail
  generalize W.alloc (.cells #[.int .u32 x.f0.f0, .int .u32 x.f0.f1, .string x.f1.f0, .string x.f1.f1, .bool x.f1.f2] 105) = V at *
  generalize W.heap.size = q at *
  have q0 : V.cell? ⟨q, 0, none⟩ = some (.int .u32 x.f0.f0) := (blk_cell bx 0).trans rfl
  have q1 : V.cell? ⟨q, 1, none⟩ = some (.int .u32 x.f0.f1) := (blk_cell bx 1).trans rfl
  have q2 : V.cell? ⟨q, 2, none⟩ = some (.string x.f1.f0) := (blk_cell bx 2).trans rfl
  have q3 : V.cell? ⟨q, 3, none⟩ = some (.string x.f1.f1) := (blk_cell bx 3).trans rfl
  have q4 : V.cell? ⟨q, 4, none⟩ = some (.bool x.f1.f2) := (blk_cell bx 4).trans rfl
  have hc1 : V.cell? ⟨g, 1, none⟩ = some (.int .i64 n) := (blk_cell hg1 1).trans rfl
  have hf1 := blk_frozen hg1 1
  have hne : q ≠ g := by omega
  have HG := Lib.hid (And.intro hg1 bx)
  clear hg1 bx hgq
  go_wp2
  go_ret
  refine UP.out _ _ ?_
  refine ⟨V.heap.size, Nat.le_refl _, rfl, ⟨?_, trivial, trivial⟩, ?_, ?_⟩
  · have e : (V.setCell ⟨g, 1, none⟩ (.int .i64 (n + 1))).heap.size = V.heap.size := by simp [World.setCell]
    show ((V.setCell ⟨g, 1, none⟩ (.int .i64 (n + 1))).alloc (.cells (cellsOf key x 1 .nil .nil) 137 (0, 0))).heap[V.heap.size]? = _
    rw [← e]
    exact blk_new _ _
  · exact blk_alloc (blk_put HG.out.1 1 _ rfl) _
  · exact ((Mod.refl V _).setCell (.inl (by simp)) _).alloc _
theorem set_same {W : World} {g : Nat} {a : Option Addr} {n : Int} {b : Nat} {k : ByteArray} {v : S105} {h : Int} {l r : Tree S105} (key : ByteArray) (x : S105) (hg : MapAt W.heap g a n) (hA : At W.heap (.node b k v h l r)) (hn : (Tree.node b k v h l r).blocks.Nodup) (hgn : g ∉ (Tree.node b k v h l r).blocks)
    (h1 : Tree.lt key k = false) (h2 : key.toList = k.toList) :
    Calls Try.prog 84 #[.pointer (some ⟨g, 0, none⟩), .pointer (some ⟨b, 0, none⟩), .string key, .agg #[.int .u32 x.f0.f0, .int .u32 x.f0.f1, .string x.f1.f0, .string x.f1.f1, .bool x.f1.f2]] W (SetPost W g a n (.node b k v h l r) key x) := by
  have m1 := (Mod.refl W []).alloc (.cells #[.int .u32 x.f0.f0, .int .u32 x.f0.f1, .string x.f1.f0, .string x.f1.f1, .bool x.f1.f2] 105)
  have bx := blk_new W (.cells #[.int .u32 x.f0.f0, .int .u32 x.f0.f1, .string x.f1.f0, .string x.f1.f1, .bool x.f1.f2] 105)
  have hA1 := at_mod hA m1 (fun _ _ => by simp)
  have hg1 : MapAt (W.alloc (.cells #[.int .u32 x.f0.f0, .int .u32 x.f0.f1, .string x.f1.f0, .string x.f1.f1, .bool x.f1.f2] 105)).heap g a n := m1.at_ hg (by simp)
  have UP : Hid (∀ e W', SetPost (W.alloc (.cells #[.int .u32 x.f0.f0, .int .u32 x.f0.f1, .string x.f1.f0, .string x.f1.f1, .bool x.f1.f2] 105)) g a n (.node b k v h l r) key x e W' → SetPost W g a n (.node b k v h l r) key x e W') := Lib.hid fun e W' h => h.up m1
  have hbq : b < W.heap.size := at_lt hA b (by simp [Tree.blocks])
  clear m1 hA hg
  have hA := hA1
  have hg := hg1
  clear hA1 hg1
  go_enter Try.func84, Try.ntmps84
  go_upto_region 3 with fail
  generalize W.alloc (.cells #[.int .u32 x.f0.f0, .int .u32 x.f0.f1, .string x.f1.f0, .string x.f1.f1, .bool x.f1.f2] 105) = V at *
  generalize W.heap.size = q at *
  have q0 : V.cell? ⟨q, 0, none⟩ = some (.int .u32 x.f0.f0) := (blk_cell bx 0).trans rfl
  have q1 : V.cell? ⟨q, 1, none⟩ = some (.int .u32 x.f0.f1) := (blk_cell bx 1).trans rfl
  have q2 : V.cell? ⟨q, 2, none⟩ = some (.string x.f1.f0) := (blk_cell bx 2).trans rfl
  have q3 : V.cell? ⟨q, 3, none⟩ = some (.string x.f1.f1) := (blk_cell bx 3).trans rfl
  have q4 : V.cell? ⟨q, 4, none⟩ = some (.bool x.f1.f2) := (blk_cell bx 4).trans rfl
  have hc0 : V.cell? ⟨b, 0, none⟩ = some (.string k) := (blk_cell hA.1 0).trans rfl
  have hc1 : V.cell? ⟨b, 1, none⟩ = some (.int .u32 v.f0.f0) := (blk_cell hA.1 1).trans rfl
  have hc2 : V.cell? ⟨b, 2, none⟩ = some (.int .u32 v.f0.f1) := (blk_cell hA.1 2).trans rfl
  have hc3 : V.cell? ⟨b, 3, none⟩ = some (.string v.f1.f0) := (blk_cell hA.1 3).trans rfl
  have hc4 : V.cell? ⟨b, 4, none⟩ = some (.string v.f1.f1) := (blk_cell hA.1 4).trans rfl
  have hc5 : V.cell? ⟨b, 5, none⟩ = some (.bool v.f1.f2) := (blk_cell hA.1 5).trans rfl
  have hf := blk_frozen hA.1
  have e1 : Op.bytesLess key.toList k.toList = false := h1
  have e2 : (key.toList == k.toList) = true := by rw [h2]; exact beq_self_eq_true _
  have es : ∀ nb, (Tree.node b k v h l r).set key x nb = .node b k x h l r := fun nb => by rw [Tree.set_node, if_neg (by rw [h1]; simp), if_pos h2]
  have eh : (Tree.node b k v h l r).has key = true := by rw [Tree.has_node, if_neg (by rw [h1]; simp), if_pos h2]
  have HA := Lib.hid (And.intro hA (And.intro hg (And.intro hn (And.intro hgn (And.intro es eh)))))
  clear hA hg hn hgn es eh h1 h2 bx hbq
  go_wp2
  go_ret
  obtain ⟨hA, hg, hn, hgn, es, eh⟩ := HA.out
  have nb := Tree.nd_node hn
  have hgb : g ≠ b := fun e => hgn (by simp [Tree.blocks, e])
  have M : Mod V (put5 V b 1 x) (g :: (Tree.node b k v h l r).blocks) := Mod.put5 (Mod.refl V _) (.inl (by simp [Tree.blocks])) 1 x
  have M' : Mod V (put5 V b 1 x) [b] := Mod.put5 (Mod.refl V _) (.inl (by simp)) 1 x
  refine UP.out _ _ ⟨V.heap.size, Nat.le_refl _, by rw [es]; rfl, ?_, ?_, M⟩
  · rw [es]
    exact ⟨node_put5 hA.1, at_mod hA.2.1 M' (fun y hy hm => by simp only [List.mem_singleton] at hm; subst hm; exact nb.1 hy), at_mod hA.2.2 M' (fun y hy hm => by simp only [List.mem_singleton] at hm; subst hm; exact nb.2.1 hy)⟩
  · rw [if_pos eh]
    exact far_put5 hg hgb 1 x
set_option maxRecDepth 100000 in
set_option maxHeartbeats 1000000 in
theorem set_left {W : World} {g : Nat} {a : Option Addr} {n : Int} {b : Nat} {k : ByteArray} {v : S105} {h : Int} {l r : Tree S105} (key : ByteArray) (x : S105) (hg : MapAt W.heap g a n) (hA : At W.heap (.node b k v h l r)) (hn : (Tree.node b k v h l r).blocks.Nodup) (hgn : g ∉ (Tree.node b k v h l r).blocks)
    (gt : (Tree.node b k v h l r).Good) (hs : (Tree.node b k v h l r).size ≤ 10000000000) (h1 : Tree.lt key k = true)
    (ih : ∀ V, Mod W V [] → Calls Try.prog 84 #[.pointer (some ⟨g, 0, none⟩), .pointer (addr l), .string key, .agg #[.int .u32 x.f0.f0, .int .u32 x.f0.f1, .string x.f1.f0, .string x.f1.f1, .bool x.f1.f2]] V (SetPost V g a n l key x)) :
    Calls Try.prog 84 #[.pointer (some ⟨g, 0, none⟩), .pointer (some ⟨b, 0, none⟩), .string key, .agg #[.int .u32 x.f0.f0, .int .u32 x.f0.f1, .string x.f1.f0, .string x.f1.f1, .bool x.f1.f2]] W (SetPost W g a n (.node b k v h l r) key x) := by
  have m1 := (Mod.refl W []).alloc (.cells #[.int .u32 x.f0.f0, .int .u32 x.f0.f1, .string x.f1.f0, .string x.f1.f1, .bool x.f1.f2] 105)
  have bx := blk_new W (.cells #[.int .u32 x.f0.f0, .int .u32 x.f0.f1, .string x.f1.f0, .string x.f1.f1, .bool x.f1.f2] 105)
  have hA1 := at_mod hA m1 (fun _ _ => by simp)
  have hg1 : MapAt (W.alloc (.cells #[.int .u32 x.f0.f0, .int .u32 x.f0.f1, .string x.f1.f0, .string x.f1.f1, .bool x.f1.f2] 105)).heap g a n := m1.at_ hg (by simp)
  have IH : Hid (∀ V', Mod (W.alloc (.cells #[.int .u32 x.f0.f0, .int .u32 x.f0.f1, .string x.f1.f0, .string x.f1.f1, .bool x.f1.f2] 105)) V' [] → Calls Try.prog 84 #[.pointer (some ⟨g, 0, none⟩), .pointer (addr l), .string key, .agg #[.int .u32 x.f0.f0, .int .u32 x.f0.f1, .string x.f1.f0, .string x.f1.f1, .bool x.f1.f2]] V' (SetPost (W.alloc (.cells #[.int .u32 x.f0.f0, .int .u32 x.f0.f1, .string x.f1.f0, .string x.f1.f1, .bool x.f1.f2] 105)) g a n l key x)) := Lib.hid fun V' m => (ih V' (m1.trans m (fun _ hk => by cases hk))).mono fun e W' h => h.up m
  have UP : Hid (∀ e W', SetPost (W.alloc (.cells #[.int .u32 x.f0.f0, .int .u32 x.f0.f1, .string x.f1.f0, .string x.f1.f1, .bool x.f1.f2] 105)) g a n (.node b k v h l r) key x e W' → SetPost W g a n (.node b k v h l r) key x e W') := Lib.hid fun e W' h => h.up m1
  clear m1 hA hg ih
  have hA := hA1
  have hg := hg1
  clear hA1 hg1
  go_enter Try.func84, Try.ntmps84
  go_upto_region 3 with fail
  generalize W.alloc (.cells #[.int .u32 x.f0.f0, .int .u32 x.f0.f1, .string x.f1.f0, .string x.f1.f1, .bool x.f1.f2] 105) = V at *
  generalize W.heap.size = q at *
  have q0 : V.cell? ⟨q, 0, none⟩ = some (.int .u32 x.f0.f0) := (blk_cell bx 0).trans rfl
  have q1 : V.cell? ⟨q, 1, none⟩ = some (.int .u32 x.f0.f1) := (blk_cell bx 1).trans rfl
  have q2 : V.cell? ⟨q, 2, none⟩ = some (.string x.f1.f0) := (blk_cell bx 2).trans rfl
  have q3 : V.cell? ⟨q, 3, none⟩ = some (.string x.f1.f1) := (blk_cell bx 3).trans rfl
  have q4 : V.cell? ⟨q, 4, none⟩ = some (.bool x.f1.f2) := (blk_cell bx 4).trans rfl
  have hc0 : V.cell? ⟨b, 0, none⟩ = some (.string k) := (blk_cell hA.1 0).trans rfl
  have hc3 : V.cell? ⟨b, 7, none⟩ = some (.pointer (addr l)) := (blk_cell hA.1 7).trans rfl
  have e1 : Op.bytesLess key.toList k.toList = true := h1
  have es : ∀ nb, (Tree.node b k v h l r).set key x nb = (Tree.node b k v h (l.set key x nb) r).even := fun nb => by rw [Tree.set_node, if_pos h1]
  have eh : (Tree.node b k v h l r).has key = l.has key := by rw [Tree.has_node, if_pos h1]
  have HA := Lib.hid (And.intro hA (And.intro hg (And.intro hn (And.intro hgn (And.intro es (And.intro eh (And.intro gt hs)))))))
  clear hA hg hn hgn es eh h1 gt hs bx
  go_upto_region 7 with fail
  go_region_with (first
    | (go_at_call 84
       refine (IH.out _ (Mod.refl _ _).drew).mono ?_
       clear q0 q1 q2 q3 q4
       rintro e W1 ⟨nb, hnb, rfl, hB, hMap, hM⟩
       obtain ⟨hA, hg, hn, hgn, es, eh, gt, hs⟩ := HA.out
       have nd := Tree.nd_node hn
       have hlt := at_lt hA
       have hgb : g ≠ b := fun e => hgn (by simp [Tree.blocks, e])
       have hbf : b ∉ g :: l.blocks := by simp only [List.mem_cons, not_or]; exact ⟨fun e => hgb e.symm, nd.1⟩
       have hb1 := hM.at_ hA.1 hbf
       replace hc3 : W1.cell? ⟨b, 7, none⟩ = some (.pointer (addr l)) := (blk_cell hb1 7).trans rfl
       have hf3 := blk_frozen hb1 7
       have ho1 : At W1.heap r := at_mod hA.2.2 hM (fun y hy hm => by
         rcases List.mem_cons.1 hm with e | e
         · subst e; exact hgn (by simp [Tree.blocks, hy])
         · exact nd.2.2.2.2.2 y hy e)
       have HB := Lib.hid (And.intro hnb (And.intro hB (And.intro hMap (And.intro hM (And.intro hb1 ho1)))))
       clear hnb hB hMap hM hb1 ho1 hbf nd hlt hgb hA hg hn hgn es eh gt hs hc0))
  all_goals
    go_wp2_with fail
    obtain ⟨hA, hg, hn, hgn, es, eh, gt, hs⟩ := HA.out
    obtain ⟨hnb, hB, hMap, hM, hb1, ho1⟩ := HB.out
    have nd := Tree.nd_node hn
    have hlt := at_lt hA
    have hgb : g ≠ b := fun e => hgn (by simp [Tree.blocks, e])
    have hnbb : b ≠ nb := fun e => by have := hlt b (by simp [Tree.blocks]); omega
    have hnbl : nb ∉ l.blocks := fun hm => by have := hlt nb (by simp [Tree.blocks, hm]); omega
    have hnbr : nb ∉ r.blocks := fun hm => by have := hlt nb (by simp [Tree.blocks, hm]); omega
    have M5 : Mod W1 (W1.setCell ⟨b, 7, none⟩ (.pointer (addr (l.set key x nb)))) [b] := (Mod.refl W1 [b]).setCell (.inl (by simp)) _
    have A5 : At (W1.setCell ⟨b, 7, none⟩ (.pointer (addr (l.set key x nb)))).heap (Tree.node b k v h (l.set key x nb) r) :=
      ⟨blk_put hb1 7 _ rfl, at_mod hB M5 (fun y hy hm => by simp only [List.mem_singleton] at hm; subst hm; rcases Tree.set_mem hy with e | e; exact hnbb e; exact nd.1 e), at_mod ho1 M5 (fun y hy hm => by simp only [List.mem_singleton] at hm; subst hm; exact nd.2.1 hy)⟩
    have N5 : (Tree.node b k v h (l.set key x nb) r).blocks.Nodup := Tree.nd_mk (fun hm => by rcases Tree.set_mem hm with e | e; exact hnbb e; exact nd.1 e) nd.2.1 (Tree.set_nodup nd.2.2.1 hnbl) nd.2.2.2.1 (fun y hy hm => by rcases Tree.set_mem hy with e | e; exact hnbr (e ▸ hm); exact nd.2.2.2.2.1 y e hm)
    have S5 : (Tree.node b k v h (l.set key x nb) r).size ≤ 100000000000 := by
      have := Tree.set_size (t := l) (key := key) (x := x) (nb := nb)
      simp only [Tree.size] at hs ⊢
      split at this <;> omega
    refine (even_calls A5 N5 (Tree.set_good gt.2.1) gt.2.2 S5).mono ?_
    rintro e W6 ⟨rfl, hC, hM6⟩
    have HC := Lib.hid (And.intro hC (And.intro hM6 M5))
    clear hC hM6 M5 A5 N5 S5 nd hlt hgb hnbb hnbl hnbr hA hg hn hgn es eh gt hs hnb hB hMap hM hb1 ho1
    go_wp2
    go_ret
    obtain ⟨hA, hg, hn, hgn, es, eh, gt, hs⟩ := HA.out
    obtain ⟨hnb, hB, hMap, hM, hb1, ho1⟩ := HB.out
    obtain ⟨hC, hM6, M5⟩ := HC.out
    have hgb : g ≠ b := fun e => hgn (by simp [Tree.blocks, e])
    have hgl : g < V.heap.size := hg.lt
    have mem : ∀ y ∈ (Tree.node b k v h (l.set key x nb) r).blocks, y ∈ g :: (Tree.node b k v h l r).blocks ∨ V.heap.size ≤ y := fun y hy => by
      simp only [Tree.blocks, List.mem_cons, List.mem_append] at hy ⊢
      rcases hy with rfl | hy | hy
      · exact .inl (.inr (.inl rfl))
      · rcases Tree.set_mem hy with rfl | hy
        · exact .inr hnb
        · exact .inl (.inr (.inr (.inl hy)))
      · exact .inl (.inr (.inr (.inr hy)))
    refine UP.out _ _ ?_
    refine ⟨nb, hnb, by rw [es]; rfl, by rw [es]; exact hC, ?_, ?_⟩
    · rw [eh]
      refine hM6.at_ (blk_far hMap hgb _) (fun hm => ?_)
      simp only [Tree.blocks, List.mem_cons, List.mem_append] at hm hgn
      rcases hm with e | hm | hm
      · exact hgb e
      · rcases Tree.set_mem hm with rfl | hm
        · omega
        · exact hgn (.inr (.inl hm))
      · exact hgn (.inr (.inr hm))
    · refine ((hM.mono (fp' := g :: (Tree.node b k v h l r).blocks) (fun y hy => .inl (by rcases List.mem_cons.1 hy with rfl | hy; simp; simp [Tree.blocks, hy]))).trans M5 (fun y hy => .inl (by simp only [List.mem_singleton] at hy; simp [Tree.blocks, hy]))).trans hM6 mem
set_option maxRecDepth 100000 in
set_option maxHeartbeats 1000000 in
theorem set_right {W : World} {g : Nat} {a : Option Addr} {n : Int} {b : Nat} {k : ByteArray} {v : S105} {h : Int} {l r : Tree S105} (key : ByteArray) (x : S105) (hg : MapAt W.heap g a n) (hA : At W.heap (.node b k v h l r)) (hn : (Tree.node b k v h l r).blocks.Nodup) (hgn : g ∉ (Tree.node b k v h l r).blocks)
    (gt : (Tree.node b k v h l r).Good) (hs : (Tree.node b k v h l r).size ≤ 10000000000) (h1 : Tree.lt key k = false) (h2 : key.toList ≠ k.toList)
    (ih : ∀ V, Mod W V [] → Calls Try.prog 84 #[.pointer (some ⟨g, 0, none⟩), .pointer (addr r), .string key, .agg #[.int .u32 x.f0.f0, .int .u32 x.f0.f1, .string x.f1.f0, .string x.f1.f1, .bool x.f1.f2]] V (SetPost V g a n r key x)) :
    Calls Try.prog 84 #[.pointer (some ⟨g, 0, none⟩), .pointer (some ⟨b, 0, none⟩), .string key, .agg #[.int .u32 x.f0.f0, .int .u32 x.f0.f1, .string x.f1.f0, .string x.f1.f1, .bool x.f1.f2]] W (SetPost W g a n (.node b k v h l r) key x) := by
  have m1 := (Mod.refl W []).alloc (.cells #[.int .u32 x.f0.f0, .int .u32 x.f0.f1, .string x.f1.f0, .string x.f1.f1, .bool x.f1.f2] 105)
  have bx := blk_new W (.cells #[.int .u32 x.f0.f0, .int .u32 x.f0.f1, .string x.f1.f0, .string x.f1.f1, .bool x.f1.f2] 105)
  have hA1 := at_mod hA m1 (fun _ _ => by simp)
  have hg1 : MapAt (W.alloc (.cells #[.int .u32 x.f0.f0, .int .u32 x.f0.f1, .string x.f1.f0, .string x.f1.f1, .bool x.f1.f2] 105)).heap g a n := m1.at_ hg (by simp)
  have IH : Hid (∀ V', Mod (W.alloc (.cells #[.int .u32 x.f0.f0, .int .u32 x.f0.f1, .string x.f1.f0, .string x.f1.f1, .bool x.f1.f2] 105)) V' [] → Calls Try.prog 84 #[.pointer (some ⟨g, 0, none⟩), .pointer (addr r), .string key, .agg #[.int .u32 x.f0.f0, .int .u32 x.f0.f1, .string x.f1.f0, .string x.f1.f1, .bool x.f1.f2]] V' (SetPost (W.alloc (.cells #[.int .u32 x.f0.f0, .int .u32 x.f0.f1, .string x.f1.f0, .string x.f1.f1, .bool x.f1.f2] 105)) g a n r key x)) := Lib.hid fun V' m => (ih V' (m1.trans m (fun _ hk => by cases hk))).mono fun e W' h => h.up m
  have UP : Hid (∀ e W', SetPost (W.alloc (.cells #[.int .u32 x.f0.f0, .int .u32 x.f0.f1, .string x.f1.f0, .string x.f1.f1, .bool x.f1.f2] 105)) g a n (.node b k v h l r) key x e W' → SetPost W g a n (.node b k v h l r) key x e W') := Lib.hid fun e W' h => h.up m1
  clear m1 hA hg ih
  have hA := hA1
  have hg := hg1
  clear hA1 hg1
  go_enter Try.func84, Try.ntmps84
  go_upto_region 3 with fail
  generalize W.alloc (.cells #[.int .u32 x.f0.f0, .int .u32 x.f0.f1, .string x.f1.f0, .string x.f1.f1, .bool x.f1.f2] 105) = V at *
  generalize W.heap.size = q at *
  have q0 : V.cell? ⟨q, 0, none⟩ = some (.int .u32 x.f0.f0) := (blk_cell bx 0).trans rfl
  have q1 : V.cell? ⟨q, 1, none⟩ = some (.int .u32 x.f0.f1) := (blk_cell bx 1).trans rfl
  have q2 : V.cell? ⟨q, 2, none⟩ = some (.string x.f1.f0) := (blk_cell bx 2).trans rfl
  have q3 : V.cell? ⟨q, 3, none⟩ = some (.string x.f1.f1) := (blk_cell bx 3).trans rfl
  have q4 : V.cell? ⟨q, 4, none⟩ = some (.bool x.f1.f2) := (blk_cell bx 4).trans rfl
  have hc0 : V.cell? ⟨b, 0, none⟩ = some (.string k) := (blk_cell hA.1 0).trans rfl
  have hc3 : V.cell? ⟨b, 8, none⟩ = some (.pointer (addr r)) := (blk_cell hA.1 8).trans rfl
  have e1 : Op.bytesLess key.toList k.toList = false := h1
  have e2 : (key.toList == k.toList) = false := beq_eq_false_iff_ne.2 h2
  have es : ∀ nb, (Tree.node b k v h l r).set key x nb = (Tree.node b k v h l (r.set key x nb)).even := fun nb => by rw [Tree.set_node, if_neg (by rw [h1]; simp), if_neg h2]
  have eh : (Tree.node b k v h l r).has key = r.has key := by rw [Tree.has_node, if_neg (by rw [h1]; simp), if_neg h2]
  have HA := Lib.hid (And.intro hA (And.intro hg (And.intro hn (And.intro hgn (And.intro es (And.intro eh (And.intro gt hs)))))))
  clear hA hg hn hgn es eh h1 h2 gt hs bx
  go_upto_region 9 with fail
  go_region_with (first
    | (go_at_call 84
       refine (IH.out _ (Mod.refl _ _).drew).mono ?_
       clear q0 q1 q2 q3 q4
       rintro e W1 ⟨nb, hnb, rfl, hB, hMap, hM⟩
       obtain ⟨hA, hg, hn, hgn, es, eh, gt, hs⟩ := HA.out
       have nd := Tree.nd_node hn
       have hlt := at_lt hA
       have hgb : g ≠ b := fun e => hgn (by simp [Tree.blocks, e])
       have hbf : b ∉ g :: r.blocks := by simp only [List.mem_cons, not_or]; exact ⟨fun e => hgb e.symm, nd.2.1⟩
       have hb1 := hM.at_ hA.1 hbf
       replace hc3 : W1.cell? ⟨b, 8, none⟩ = some (.pointer (addr r)) := (blk_cell hb1 8).trans rfl
       have hf3 := blk_frozen hb1 8
       have ho1 : At W1.heap l := at_mod hA.2.1 hM (fun y hy hm => by
         rcases List.mem_cons.1 hm with e | e
         · subst e; exact hgn (by simp [Tree.blocks, hy])
         · exact nd.2.2.2.2.1 y hy e)
       have HB := Lib.hid (And.intro hnb (And.intro hB (And.intro hMap (And.intro hM (And.intro hb1 ho1)))))
       clear hnb hB hMap hM hb1 ho1 hbf nd hlt hgb hA hg hn hgn es eh gt hs hc0))
  all_goals
    go_wp2_with fail
    obtain ⟨hA, hg, hn, hgn, es, eh, gt, hs⟩ := HA.out
    obtain ⟨hnb, hB, hMap, hM, hb1, ho1⟩ := HB.out
    have nd := Tree.nd_node hn
    have hlt := at_lt hA
    have hgb : g ≠ b := fun e => hgn (by simp [Tree.blocks, e])
    have hnbb : b ≠ nb := fun e => by have := hlt b (by simp [Tree.blocks]); omega
    have hnbl : nb ∉ l.blocks := fun hm => by have := hlt nb (by simp [Tree.blocks, hm]); omega
    have hnbr : nb ∉ r.blocks := fun hm => by have := hlt nb (by simp [Tree.blocks, hm]); omega
    have M5 : Mod W1 (W1.setCell ⟨b, 8, none⟩ (.pointer (addr (r.set key x nb)))) [b] := (Mod.refl W1 [b]).setCell (.inl (by simp)) _
    have A5 : At (W1.setCell ⟨b, 8, none⟩ (.pointer (addr (r.set key x nb)))).heap (Tree.node b k v h l (r.set key x nb)) :=
      ⟨blk_put hb1 8 _ rfl, at_mod ho1 M5 (fun y hy hm => by simp only [List.mem_singleton] at hm; subst hm; exact nd.1 hy), at_mod hB M5 (fun y hy hm => by simp only [List.mem_singleton] at hm; subst hm; rcases Tree.set_mem hy with e | e; exact hnbb e; exact nd.2.1 e)⟩
    have N5 : (Tree.node b k v h l (r.set key x nb)).blocks.Nodup := Tree.nd_mk nd.1 (fun hm => by rcases Tree.set_mem hm with e | e; exact hnbb e; exact nd.2.1 e) nd.2.2.1 (Tree.set_nodup nd.2.2.2.1 hnbr) (fun y hy hm => by rcases Tree.set_mem hm with e | e; exact hnbl (e ▸ hy); exact nd.2.2.2.2.1 y hy e)
    have S5 : (Tree.node b k v h l (r.set key x nb)).size ≤ 100000000000 := by
      have := Tree.set_size (t := r) (key := key) (x := x) (nb := nb)
      simp only [Tree.size] at hs ⊢
      split at this <;> omega
    refine (even_calls A5 N5 gt.2.1 (Tree.set_good gt.2.2) S5).mono ?_
    rintro e W6 ⟨rfl, hC, hM6⟩
    have HC := Lib.hid (And.intro hC (And.intro hM6 M5))
    clear hC hM6 M5 A5 N5 S5 nd hlt hgb hnbb hnbl hnbr hA hg hn hgn es eh gt hs hnb hB hMap hM hb1 ho1
    go_wp2
    go_ret
    obtain ⟨hA, hg, hn, hgn, es, eh, gt, hs⟩ := HA.out
    obtain ⟨hnb, hB, hMap, hM, hb1, ho1⟩ := HB.out
    obtain ⟨hC, hM6, M5⟩ := HC.out
    have hgb : g ≠ b := fun e => hgn (by simp [Tree.blocks, e])
    have hgl : g < V.heap.size := hg.lt
    have mem : ∀ y ∈ (Tree.node b k v h l (r.set key x nb)).blocks, y ∈ g :: (Tree.node b k v h l r).blocks ∨ V.heap.size ≤ y := fun y hy => by
      simp only [Tree.blocks, List.mem_cons, List.mem_append] at hy ⊢
      rcases hy with rfl | hy | hy
      · exact .inl (.inr (.inl rfl))
      · exact .inl (.inr (.inr (.inl hy)))
      · rcases Tree.set_mem hy with rfl | hy
        · exact .inr hnb
        · exact .inl (.inr (.inr (.inr hy)))
    refine UP.out _ _ ?_
    refine ⟨nb, hnb, by rw [es]; rfl, by rw [es]; exact hC, ?_, ?_⟩
    · rw [eh]
      refine hM6.at_ (blk_far hMap hgb _) (fun hm => ?_)
      simp only [Tree.blocks, List.mem_cons, List.mem_append] at hm hgn
      rcases hm with e | hm | hm
      · exact hgb e
      · exact hgn (.inr (.inl hm))
      · rcases Tree.set_mem hm with rfl | hm
        · omega
        · exact hgn (.inr (.inr hm))
    · refine ((hM.mono (fp' := g :: (Tree.node b k v h l r).blocks) (fun y hy => .inl (by rcases List.mem_cons.1 hy with rfl | hy; simp; simp [Tree.blocks, hy]))).trans M5 (fun y hy => .inl (by simp only [List.mem_singleton] at hy; simp [Tree.blocks, hy]))).trans hM6 mem
theorem set_calls (t : Tree S105) : ∀ {W : World} {g : Nat} {a : Option Addr} {n : Int} (key : ByteArray) (x : S105), MapAt W.heap g a n → 0 ≤ n → n ≤ 10000000000 → At W.heap t → t.blocks.Nodup → g ∉ t.blocks → t.Good → t.size ≤ 10000000000 →
    Calls Try.prog 84 #[.pointer (some ⟨g, 0, none⟩), .pointer (addr t), .string key, .agg #[.int .u32 x.f0.f0, .int .u32 x.f0.f1, .string x.f1.f0, .string x.f1.f1, .bool x.f1.f2]] W (SetPost W g a n t key x) := by
  induction t with
  | nil => intro W g a n key x hg n0 n1 hA hn hgn gt hs; exact set_nil key x hg n0 n1
  | node b k v h l r il ir =>
    intro W g a n key x hg n0 n1 hA hn hgn gt hs
    have nd := Tree.nd_node hn
    simp only [Tree.blocks, List.mem_cons, List.mem_append, not_or] at hgn
    have hgn' : g ∉ (Tree.node b k v h l r).blocks := by simp only [Tree.blocks, List.mem_cons, List.mem_append, not_or]; exact hgn
    have hs' := hs
    simp only [Tree.size] at hs'
    by_cases c1 : Tree.lt key k = true
    · exact set_left key x hg hA hn hgn' gt hs c1 (fun V m => il key x (m.at_ hg (by simp)) n0 n1 (at_mod hA.2.1 m (fun _ _ => by simp)) nd.2.2.1 hgn.2.1 gt.2.1 (by omega))
    · by_cases c2 : key.toList = k.toList
      · exact set_same key x hg hA hn hgn' (by simpa using c1) c2
      · exact set_right key x hg hA hn hgn' gt hs (by simpa using c1) c2 (fun V m => ir key x (m.at_ hg (by simp)) n0 n1 (at_mod hA.2.2 m (fun _ _ => by simp)) nd.2.2.2.1 hgn.2.2 gt.2.2 (by omega))
def FirstPost (W : World) (t : Tree S105) (e : Ending) (W' : World) : Prop :=
  ∃ bx kx vx hx q, t.least = some (bx, kx, vx, hx) ∧ e = .returned (.tuple #[.pointer (addr t.rest), .pointer (some ⟨bx, 0, none⟩)]) ∧ At W'.heap t.rest ∧ W'.heap[bx]? = some (.cells #[.string kx, .int .u32 vx.f0.f0, .int .u32 vx.f0.f1, .string vx.f1.f0, .string vx.f1.f1, .bool vx.f1.f2, .int .i64 hx, .pointer none, .pointer q] 137 (0, 0)) ∧ Mod W W' t.blocks
theorem first_end {W : World} {b : Nat} {k : ByteArray} {v : S105} {h : Int} {r : Tree S105} (hA : At W.heap (.node b k v h .nil r)) :
    Calls Try.prog 101 #[.pointer (some ⟨b, 0, none⟩)] W (FirstPost W (.node b k v h .nil r)) := by
  have hc3 : W.cell? ⟨b, 7, none⟩ = some (.pointer none) := (blk_cell hA.1 7).trans rfl
  have hc4 : W.cell? ⟨b, 8, none⟩ = some (.pointer (addr r)) := (blk_cell hA.1 8).trans rfl
  have HA := Lib.hid hA
  clear hA
  go_enter Try.func101, Try.ntmps101
  go_wp2
  go_ret2
  exact ⟨b, k, v, h, addr r, rfl, rfl, HA.out.2.2, HA.out.1, Mod.refl _ _⟩
theorem first_step {W : World} {b b2 : Nat} {k k2 : ByteArray} {v v2 : S105} {h h2 : Int} {l2 r2 r : Tree S105} (hA : At W.heap (.node b k v h (.node b2 k2 v2 h2 l2 r2) r)) (hn : (Tree.node b k v h (.node b2 k2 v2 h2 l2 r2) r).blocks.Nodup)
    (gt : (Tree.node b k v h (.node b2 k2 v2 h2 l2 r2) r).Good) (hs : (Tree.node b k v h (.node b2 k2 v2 h2 l2 r2) r).size ≤ 10000000000)
    (ih : Calls Try.prog 101 #[.pointer (some ⟨b2, 0, none⟩)] W (FirstPost W (.node b2 k2 v2 h2 l2 r2))) :
    Calls Try.prog 101 #[.pointer (some ⟨b, 0, none⟩)] W (FirstPost W (.node b k v h (.node b2 k2 v2 h2 l2 r2) r)) := by
  have hc3 : W.cell? ⟨b, 7, none⟩ = some (.pointer (some ⟨b2, 0, none⟩)) := (blk_cell hA.1 7).trans rfl
  have HA := Lib.hid (And.intro hA (And.intro hn (And.intro gt hs)))
  have IH := Lib.hid ih
  clear hA hn gt hs ih
  go_enter Try.func101, Try.ntmps101
  go_wp2_with fail
  refine IH.out.mono ?_
  rintro e W1 ⟨bx, kx, vx, hx, q, hlst, rfl, hB, hbx, hM⟩
  obtain ⟨hA, hn, gt, hs⟩ := HA.out
  have nd := Tree.nd_node hn
  have hb1 := hM.at_ hA.1 nd.1
  replace hc3 : W1.cell? ⟨b, 7, none⟩ = some (.pointer (some ⟨b2, 0, none⟩)) := (blk_cell hb1 7).trans rfl
  have hf3 := blk_frozen hb1 7
  have ho1 : At W1.heap r := at_mod hA.2.2 hM (fun y hy hm => nd.2.2.2.2.2 y hy hm)
  have HB := Lib.hid (And.intro hlst (And.intro hB (And.intro hbx (And.intro hM (And.intro hb1 ho1)))))
  clear hlst hB hbx hM hb1 ho1 nd hA hn gt hs
  go_wp2_with fail
  obtain ⟨hA, hn, gt, hs⟩ := HA.out
  obtain ⟨hlst, hB, hbx, hM, hb1, ho1⟩ := HB.out
  have nd := Tree.nd_node hn
  have M5 : Mod W1 (W1.setCell ⟨b, 7, none⟩ (.pointer (addr (Tree.node b2 k2 v2 h2 l2 r2).rest))) [b] := (Mod.refl W1 [b]).setCell (.inl (by simp)) _
  have A5 : At (W1.setCell ⟨b, 7, none⟩ (.pointer (addr (Tree.node b2 k2 v2 h2 l2 r2).rest))).heap (.node b k v h (Tree.node b2 k2 v2 h2 l2 r2).rest r) :=
    ⟨blk_put hb1 7 _ rfl, at_mod hB M5 (fun y hy hm => by simp only [List.mem_singleton] at hm; subst hm; exact nd.1 (Tree.rest_mem hlst hy)), at_mod ho1 M5 (fun y hy hm => by simp only [List.mem_singleton] at hm; subst hm; exact nd.2.1 hy)⟩
  have N5 : (Tree.node b k v h (Tree.node b2 k2 v2 h2 l2 r2).rest r).blocks.Nodup := Tree.nd_mk (fun hm => nd.1 (Tree.rest_mem hlst hm)) nd.2.1 (Tree.rest_nodup hlst nd.2.2.1).2 nd.2.2.2.1 (fun y hy hm => nd.2.2.2.2.1 y (Tree.rest_mem hlst hy) hm)
  have S5 : (Tree.node b k v h (Tree.node b2 k2 v2 h2 l2 r2).rest r).size ≤ 100000000000 := by
    have := Tree.rest_size hlst
    simp only [Tree.size] at hs this ⊢
    omega
  have hbxb : bx ≠ b := fun e => nd.1 (e ▸ Tree.least_mem hlst)
  have hbx5 : (W1.setCell ⟨b, 7, none⟩ (.pointer (addr (Tree.node b2 k2 v2 h2 l2 r2).rest))).heap[bx]? = _ := blk_far hbx hbxb _
  have hbxr : bx ∉ (Tree.node b k v h (Tree.node b2 k2 v2 h2 l2 r2).rest r).blocks := by
    simp only [Tree.blocks, List.mem_cons, List.mem_append, not_or]
    exact ⟨hbxb, (Tree.rest_nodup hlst nd.2.2.1).1, nd.2.2.2.2.1 bx (Tree.least_mem hlst)⟩
  refine (even_calls A5 N5 (Tree.rest_good gt.2.1) gt.2.2 S5).mono ?_
  rintro e W6 ⟨rfl, hC, hM6⟩
  have HC := Lib.hid (And.intro hC (And.intro hM6 (And.intro M5 (And.intro hbx5 hbxr))))
  clear hC hM6 M5 A5 N5 S5 hbx5 hbxr hbxb nd hlst hB hbx hM hb1 ho1 hA hn gt hs
  go_wp2
  go_ret2
  obtain ⟨hA, hn, gt, hs⟩ := HA.out
  obtain ⟨hlst, hB, hbx, hM, hb1, ho1⟩ := HB.out
  obtain ⟨hC, hM6, M5, hbx5, hbxr⟩ := HC.out
  refine ⟨bx, kx, vx, hx, q, by rw [Tree.least_node]; exact hlst, by rw [Tree.rest_node]; rfl, by rw [Tree.rest_node]; exact hC, hM6.at_ hbx5 hbxr, ?_⟩
  refine ((hM.mono (fp' := (Tree.node b k v h (.node b2 k2 v2 h2 l2 r2) r).blocks) (fun y hy => .inl (by simp only [Tree.blocks, List.mem_cons, List.mem_append] at hy ⊢; exact .inr (.inl hy)))).trans M5 (fun y hy => .inl (by simp only [List.mem_singleton] at hy; simp [Tree.blocks, hy]))).trans hM6 (fun y hy => .inl ?_)
  simp only [Tree.blocks, List.mem_cons, List.mem_append] at hy
  rcases hy with rfl | hy | hy
  · simp [Tree.blocks]
  · have := Tree.rest_mem hlst hy
    simp only [Tree.blocks, List.mem_cons, List.mem_append] at this ⊢
    exact .inr (.inl this)
  · simp [Tree.blocks, hy]
theorem first_calls (t : Tree S105) : ∀ {W : World}, t ≠ .nil → At W.heap t → t.blocks.Nodup → t.Good → t.size ≤ 10000000000 → Calls Try.prog 101 #[.pointer (addr t)] W (FirstPost W t) := by
  induction t with
  | nil => intro W h; exact absurd rfl h
  | node b k v h l r il ir =>
    intro W _ hA hn gt hs
    cases l with
    | nil => exact first_end hA
    | node b2 k2 v2 h2 l2 r2 =>
      have nd := Tree.nd_node hn
      exact first_step hA hn gt hs (il (by simp) hA.2.1 nd.2.2.1 gt.2.1 (by simp only [Tree.size] at hs ⊢; omega))
def CutPost (W : World) (g : Nat) (a : Option Addr) (n : Int) (t : Tree S105) (key : ByteArray) (e : Ending) (W' : World) : Prop :=
  e = .returned (.pointer (addr (t.cut key))) ∧ At W'.heap (t.cut key) ∧ MapAt W'.heap g a (if t.has key = true then n - 1 else n) ∧ Mod W W' (g :: t.blocks)
theorem cut_nil {W : World} {g : Nat} {a : Option Addr} {n : Int} (key : ByteArray) (hg : MapAt W.heap g a n) :
    Calls Try.prog 86 #[.pointer (some ⟨g, 0, none⟩), .pointer none, .string key] W (CutPost W g a n .nil key) := by
  have HG := Lib.hid hg
  clear hg
  go_enter Try.func86, Try.ntmps86
  go_wp2
  go_ret
  exact ⟨rfl, trivial, HG.out, Mod.refl _ _⟩
theorem cut_leaf {W : World} {g : Nat} {a : Option Addr} {n : Int} {b : Nat} {k : ByteArray} {v : S105} {h : Int} {l : Tree S105} (key : ByteArray) (hg : MapAt W.heap g a n) (n0 : 0 ≤ n) (n1 : n ≤ 10000000000) (hA : At W.heap (.node b k v h l .nil)) (hgn : g ∉ (Tree.node b k v h l .nil).blocks)
    (h1 : Tree.lt key k = false) (h2 : key.toList = k.toList) :
    Calls Try.prog 86 #[.pointer (some ⟨g, 0, none⟩), .pointer (some ⟨b, 0, none⟩), .string key] W (CutPost W g a n (.node b k v h l .nil) key) := by
  have hgb : g ≠ b := fun e => hgn (by simp [Tree.blocks, e])
  have hbg : b ≠ g := fun e => hgb e.symm
  have hm1 : W.cell? ⟨g, 1, none⟩ = some (.int .i64 n) := (blk_cell hg 1).trans rfl
  have hmf := blk_frozen hg 1
  have hc0 : W.cell? ⟨b, 0, none⟩ = some (.string k) := (blk_cell hA.1 0).trans rfl
  have hc3 : W.cell? ⟨b, 7, none⟩ = some (.pointer (addr l)) := (blk_cell hA.1 7).trans rfl
  have hc4 : W.cell? ⟨b, 8, none⟩ = some (.pointer none) := (blk_cell hA.1 8).trans rfl
  have e1 : Op.bytesLess key.toList k.toList = false := h1
  have e2 : (key.toList == k.toList) = true := by rw [h2]; exact beq_self_eq_true _
  have es : (Tree.node b k v h l .nil).cut key = l := by rw [Tree.cut_node, if_neg (by rw [h1]; simp), if_pos h2]; rfl
  have eh : (Tree.node b k v h l .nil).has key = true := by rw [Tree.has_node, if_neg (by rw [h1]; simp), if_pos h2]
  have HA := Lib.hid (And.intro hA (And.intro hg (And.intro hgn (And.intro es eh))))
  clear hA hg hgn es eh h1 h2
  go_enter Try.func86, Try.ntmps86
  go_wp2
  go_ret
  obtain ⟨hA, hg, hgn, es, eh⟩ := HA.out
  have M : Mod W (W.setCell ⟨g, 1, none⟩ (.int .i64 (n - 1))) [g] := (Mod.refl W _).setCell (.inl (by simp)) _
  refine ⟨by rw [es]; rfl, ?_, ?_, M.mono (fun y hy => .inl (by simp only [List.mem_singleton] at hy; simp [hy]))⟩
  · rw [es]
    exact at_mod hA.2.1 M (fun y hy hm => by simp only [List.mem_singleton] at hm; subst hm; exact hgn (by simp [Tree.blocks, hy]))
  · rw [if_pos eh]
    exact blk_put hg 1 _ rfl
theorem cut_mid {W : World} {g : Nat} {a : Option Addr} {n : Int} {b : Nat} {k : ByteArray} {v : S105} {h : Int} {l r : Tree S105} (key : ByteArray) (hg : MapAt W.heap g a n) (n0 : 0 ≤ n) (n1 : n ≤ 10000000000) (hA : At W.heap (.node b k v h l r)) (hn : (Tree.node b k v h l r).blocks.Nodup) (hgn : g ∉ (Tree.node b k v h l r).blocks)
    (gt : (Tree.node b k v h l r).Good) (hs : (Tree.node b k v h l r).size ≤ 10000000000) (h1 : Tree.lt key k = false) (h2 : key.toList = k.toList) (hr : r ≠ .nil) :
    Calls Try.prog 86 #[.pointer (some ⟨g, 0, none⟩), .pointer (some ⟨b, 0, none⟩), .string key] W (CutPost W g a n (.node b k v h l r) key) := by
  have hgb : g ≠ b := fun e => hgn (by simp [Tree.blocks, e])
  have hbg : b ≠ g := fun e => hgb e.symm
  have hm1 : W.cell? ⟨g, 1, none⟩ = some (.int .i64 n) := (blk_cell hg 1).trans rfl
  have hmf := blk_frozen hg 1
  have hc0 : W.cell? ⟨b, 0, none⟩ = some (.string k) := (blk_cell hA.1 0).trans rfl
  obtain ⟨bb, hbb⟩ : ∃ bb, addr r = some bb := by
    cases r with
    | nil => exact absurd rfl hr
    | node b2 _ _ _ _ _ => exact ⟨_, rfl⟩
  have hc4 : W.cell? ⟨b, 8, none⟩ = some (.pointer (some bb)) := ((blk_cell hA.1 8).trans (rfl : _ = some (Value.pointer (addr r)))).trans (by rw [hbb])
  have e1 : Op.bytesLess key.toList k.toList = false := h1
  have e2 : (key.toList == k.toList) = true := by rw [h2]; exact beq_self_eq_true _
  have eh : (Tree.node b k v h l r).has key = true := by rw [Tree.has_node, if_neg (by rw [h1]; simp), if_pos h2]
  have M1 : Mod W (W.setCell ⟨g, 1, none⟩ (.int .i64 (n - 1))) [g] := (Mod.refl W _).setCell (.inl (by simp)) _
  have hgl : g ∉ l.blocks ∧ g ∉ r.blocks := by simp only [Tree.blocks, List.mem_cons, List.mem_append, not_or] at hgn; exact hgn.2
  have A1 : At (W.setCell ⟨g, 1, none⟩ (.int .i64 (n - 1))).heap r := at_mod hA.2.2 M1 (fun y hy hm => by simp only [List.mem_singleton] at hm; subst hm; exact hgl.2 hy)
  have L1 : At (W.setCell ⟨g, 1, none⟩ (.int .i64 (n - 1))).heap l := at_mod hA.2.1 M1 (fun y hy hm => by simp only [List.mem_singleton] at hm; subst hm; exact hgl.1 hy)
  have B1 := M1.at_ hA.1 (by simp only [List.mem_singleton]; exact hbg)
  have G1 : MapAt (W.setCell ⟨g, 1, none⟩ (.int .i64 (n - 1))).heap g a (n - 1) := blk_put hg 1 _ rfl
  have HA := Lib.hid (And.intro hn (And.intro hgn (And.intro eh (And.intro gt (And.intro hs (And.intro hgl (And.intro h1 (And.intro h2 hbb))))))))
  have HW := Lib.hid (And.intro M1 (And.intro A1 (And.intro L1 (And.intro B1 G1))))
  clear hA hg hgn eh h1 h2 hn gt hs M1 A1 L1 B1 G1 hgl hbb
  have HR := Lib.hid hr
  clear hr
  go_enter Try.func86, Try.ntmps86
  go_wp2_with fail
  generalize W.setCell ⟨g, 1, none⟩ (.int .i64 (n - 1)) = W1 at HW ⊢
  obtain ⟨hn, hgn, eh, gt, hs, hgl, h1, h2, hbb⟩ := HA.out
  obtain ⟨M1, A1, L1, B1, G1⟩ := HW.out
  have nd := Tree.nd_node hn
  rw [← hbb]
  refine (first_calls r HR.out A1 nd.2.2.2.1 gt.2.2 (by simp only [Tree.size] at hs; omega)).mono ?_
  rintro e W2 ⟨bx, kx, vx, hx, q, hlst, rfl, hB, hbx, hM⟩
  have hbxm := Tree.least_mem hlst
  have hb2 := hM.at_ B1 nd.2.1
  have hl2 : At W2.heap l := at_mod L1 hM (fun y hy hm => nd.2.2.2.2.1 y hy hm)
  have hg2 : MapAt W2.heap g a (n - 1) := hM.at_ G1 hgl.2
  have hbbx : b ≠ bx := fun e => nd.2.1 (e ▸ hbxm)
  have hbxb : bx ≠ b := fun e => hbbx e.symm
  have hd3 : W2.cell? ⟨b, 7, none⟩ = some (.pointer (addr l)) := (blk_cell hb2 7).trans rfl
  have hx3 : W2.cell? ⟨bx, 7, none⟩ = some (.pointer none) := (blk_cell hbx 7).trans rfl
  have hx4 : W2.cell? ⟨bx, 8, none⟩ = some (.pointer q) := (blk_cell hbx 8).trans rfl
  have hxf3 := blk_frozen hbx 7
  have hxf4 := blk_frozen hbx 8
  have es : (Tree.node b k v h l r).cut key = (Tree.node bx kx vx hx l r.rest).even := by rw [Tree.cut_node, if_neg (by rw [h1]; simp), if_pos h2, hlst]
  have B3 : ((W2.setCell ⟨bx, 7, none⟩ (.pointer (addr l))).setCell ⟨bx, 8, none⟩ (.pointer (addr r.rest))).heap[bx]? = some (.cells (cellsOf kx vx hx l r.rest) 137 (0, 0)) := blk_put (blk_put hbx 7 _ rfl) 8 _ rfl
  have M3 : Mod W2 ((W2.setCell ⟨bx, 7, none⟩ (.pointer (addr l))).setCell ⟨bx, 8, none⟩ (.pointer (addr r.rest))) [bx] := ((Mod.refl W2 _).setCell (.inl (by simp)) _).setCell (.inl (by simp)) _
  have A3 : At ((W2.setCell ⟨bx, 7, none⟩ (.pointer (addr l))).setCell ⟨bx, 8, none⟩ (.pointer (addr r.rest))).heap (.node bx kx vx hx l r.rest) :=
    ⟨B3, at_mod hl2 M3 (fun y hy hm => by simp only [List.mem_singleton] at hm; subst hm; exact nd.2.2.2.2.1 y hy hbxm), at_mod hB M3 (fun y hy hm => by simp only [List.mem_singleton] at hm; subst hm; exact (Tree.rest_nodup hlst nd.2.2.2.1).1 hy)⟩
  have G3 : MapAt ((W2.setCell ⟨bx, 7, none⟩ (.pointer (addr l))).setCell ⟨bx, 8, none⟩ (.pointer (addr r.rest))).heap g a (n - 1) := M3.at_ hg2 (by simp only [List.mem_singleton]; exact fun e => hgl.2 (e ▸ hbxm))
  have N3 : (Tree.node bx kx vx hx l r.rest).blocks.Nodup := Tree.nd_mk (fun hm => nd.2.2.2.2.1 bx hm hbxm) (Tree.rest_nodup hlst nd.2.2.2.1).1 nd.2.2.1 (Tree.rest_nodup hlst nd.2.2.2.1).2 (fun y hy hm => nd.2.2.2.2.1 y hy (Tree.rest_mem hlst hm))
  have S3 : (Tree.node bx kx vx hx l r.rest).size ≤ 100000000000 := by
    have := Tree.rest_size hlst
    simp only [Tree.size] at hs ⊢
    omega
  have GN : g ∉ (Tree.node bx kx vx hx l r.rest).blocks := by
    simp only [Tree.blocks, List.mem_cons, List.mem_append, not_or]
    exact ⟨fun e => hgl.2 (e ▸ hbxm), hgl.1, fun hm => hgl.2 (Tree.rest_mem hlst hm)⟩
  have HB := Lib.hid (And.intro hlst (And.intro hM (And.intro es (And.intro M3 (And.intro A3 (And.intro G3 (And.intro N3 (And.intro S3 (And.intro GN hbxm)))))))))
  have HG2 := Lib.hid (And.intro gt.2.1 (Tree.rest_good gt.2.2))
  clear hlst hM hb2 hl2 hg2 hB hbx es M3 A3 G3 N3 S3 GN B3 hbxm M1 A1 L1 B1 G1 nd hn hgn eh gt hs hgl h1 h2 hbb
  go_wp2_with fail
  generalize (W2.setCell ⟨bx, 7, none⟩ (.pointer (addr l))).setCell ⟨bx, 8, none⟩ (.pointer (addr r.rest)) = W3 at HB ⊢
  refine (even_calls HB.out.2.2.2.2.1 HB.out.2.2.2.2.2.2.1 HG2.out.1 HG2.out.2 HB.out.2.2.2.2.2.2.2.1).mono ?_
  rintro e W6 ⟨rfl, hC, hM6⟩
  have HC := Lib.hid (And.intro hC hM6)
  clear hC hM6
  go_wp2
  go_ret
  obtain ⟨hn, hgn, eh, gt, hs, hgl, h1, h2, hbb⟩ := HA.out
  obtain ⟨M1, A1, L1, B1, G1⟩ := HW.out
  obtain ⟨hlst, hM, es, M3, A3, G3, N3, S3, GN, hbxm⟩ := HB.out
  obtain ⟨hC, hM6⟩ := HC.out
  refine ⟨by rw [es]; rfl, by rw [es]; exact hC, by rw [if_pos eh]; exact hM6.at_ G3 GN, ?_⟩
  refine (((M1.mono (fp' := g :: (Tree.node b k v h l r).blocks) (fun y hy => .inl (by simp only [List.mem_singleton] at hy; simp [hy]))).trans hM (fun y hy => .inl (by simp [Tree.blocks, hy]))).trans M3 (fun y hy => .inl (by simp only [List.mem_singleton] at hy; subst hy; simp [Tree.blocks, hbxm]))).trans hM6 (fun y hy => .inl ?_)
  simp only [Tree.blocks, List.mem_cons, List.mem_append] at hy
  rcases hy with rfl | hy | hy
  · simp [Tree.blocks, hbxm]
  · simp [Tree.blocks, hy]
  · simp [Tree.blocks, Tree.rest_mem hlst hy]
theorem cut_left {W : World} {g : Nat} {a : Option Addr} {n : Int} {b : Nat} {k : ByteArray} {v : S105} {h : Int} {l r : Tree S105} (key : ByteArray) (hg : MapAt W.heap g a n) (hA : At W.heap (.node b k v h l r)) (hn : (Tree.node b k v h l r).blocks.Nodup) (hgn : g ∉ (Tree.node b k v h l r).blocks)
    (gt : (Tree.node b k v h l r).Good) (hs : (Tree.node b k v h l r).size ≤ 10000000000) (h1 : Tree.lt key k = true)
    (ih : Calls Try.prog 86 #[.pointer (some ⟨g, 0, none⟩), .pointer (addr l), .string key] W (CutPost W g a n l key)) :
    Calls Try.prog 86 #[.pointer (some ⟨g, 0, none⟩), .pointer (some ⟨b, 0, none⟩), .string key] W (CutPost W g a n (.node b k v h l r) key) := by
  have hc0 : W.cell? ⟨b, 0, none⟩ = some (.string k) := (blk_cell hA.1 0).trans rfl
  have hc3 : W.cell? ⟨b, 7, none⟩ = some (.pointer (addr l)) := (blk_cell hA.1 7).trans rfl
  have e1 : Op.bytesLess key.toList k.toList = true := h1
  have es : (Tree.node b k v h l r).cut key = (Tree.node b k v h (l.cut key) r).even := by rw [Tree.cut_node, if_pos h1]
  have eh : (Tree.node b k v h l r).has key = l.has key := by rw [Tree.has_node, if_pos h1]
  have HA := Lib.hid (And.intro hA (And.intro hg (And.intro hn (And.intro hgn (And.intro es (And.intro eh (And.intro gt hs)))))))
  have IH := Lib.hid ih
  clear hA hg hn hgn es eh h1 gt hs ih
  go_enter Try.func86, Try.ntmps86
  go_wp2_with fail
  refine IH.out.mono ?_
  rintro e W1 ⟨rfl, hB, hMap, hM⟩
  obtain ⟨hA, hg, hn, hgn, es, eh, gt, hs⟩ := HA.out
  have nd := Tree.nd_node hn
  have hlt := at_lt hA
  have hgb : g ≠ b := fun e => hgn (by simp [Tree.blocks, e])
  have hbf : b ∉ g :: l.blocks := by simp only [List.mem_cons, not_or]; exact ⟨fun e => hgb e.symm, nd.1⟩
  have hb1 := hM.at_ hA.1 hbf
  replace hc3 : W1.cell? ⟨b, 7, none⟩ = some (.pointer (addr l)) := (blk_cell hb1 7).trans rfl
  have hf3 := blk_frozen hb1 7
  have ho1 : At W1.heap r := at_mod hA.2.2 hM (fun y hy hm => by
    rcases List.mem_cons.1 hm with e | e
    · subst e; exact hgn (by simp [Tree.blocks, hy])
    · exact nd.2.2.2.2.2 y hy e)
  have HB := Lib.hid (And.intro hB (And.intro hMap (And.intro hM (And.intro hb1 ho1))))
  clear hB hMap hM hb1 ho1 hbf nd hlt hgb hA hg hn hgn es eh gt hs hc0
  go_wp2_with fail
  obtain ⟨hA, hg, hn, hgn, es, eh, gt, hs⟩ := HA.out
  obtain ⟨hB, hMap, hM, hb1, ho1⟩ := HB.out
  have nd := Tree.nd_node hn
  have hlt := at_lt hA
  have hgb : g ≠ b := fun e => hgn (by simp [Tree.blocks, e])
  have M5 : Mod W1 (W1.setCell ⟨b, 7, none⟩ (.pointer (addr (l.cut key)))) [b] := (Mod.refl W1 [b]).setCell (.inl (by simp)) _
  have A5 : At (W1.setCell ⟨b, 7, none⟩ (.pointer (addr (l.cut key)))).heap (Tree.node b k v h (l.cut key) r) :=
    ⟨blk_put hb1 7 _ rfl, at_mod hB M5 (fun y hy hm => by simp only [List.mem_singleton] at hm; subst hm; exact nd.1 (Tree.cut_mem hy)), at_mod ho1 M5 (fun y hy hm => by simp only [List.mem_singleton] at hm; subst hm; exact nd.2.1 hy)⟩
  have N5 : (Tree.node b k v h (l.cut key) r).blocks.Nodup := Tree.nd_mk (fun hm => nd.1 (Tree.cut_mem hm)) nd.2.1 (Tree.cut_nodup nd.2.2.1) nd.2.2.2.1 (fun y hy hm => nd.2.2.2.2.1 y (Tree.cut_mem hy) hm)
  have S5 : (Tree.node b k v h (l.cut key) r).size ≤ 100000000000 := by
    have := Tree.cut_size (t := l) (key := key)
    simp only [Tree.size] at hs ⊢
    omega
  refine (even_calls A5 N5 (Tree.cut_good gt.2.1) gt.2.2 S5).mono ?_
  rintro e W6 ⟨rfl, hC, hM6⟩
  have HC := Lib.hid (And.intro hC (And.intro hM6 M5))
  clear hC hM6 M5 A5 N5 S5 nd hlt hgb hA hg hn hgn es eh gt hs hB hMap hM hb1 ho1
  go_wp2
  go_ret
  obtain ⟨hA, hg, hn, hgn, es, eh, gt, hs⟩ := HA.out
  obtain ⟨hB, hMap, hM, hb1, ho1⟩ := HB.out
  obtain ⟨hC, hM6, M5⟩ := HC.out
  have hgb : g ≠ b := fun e => hgn (by simp [Tree.blocks, e])
  have hgl : g < W.heap.size := hg.lt
  have mem : ∀ y ∈ (Tree.node b k v h (l.cut key) r).blocks, y ∈ g :: (Tree.node b k v h l r).blocks ∨ W.heap.size ≤ y := fun y hy => by
    simp only [Tree.blocks, List.mem_cons, List.mem_append] at hy ⊢
    rcases hy with rfl | hy | hy
    · exact .inl (.inr (.inl rfl))
    · exact .inl (.inr (.inr (.inl (Tree.cut_mem hy))))
    · exact .inl (.inr (.inr (.inr hy)))
  refine ⟨by rw [es]; rfl, by rw [es]; exact hC, ?_, ?_⟩
  · rw [eh]
    refine hM6.at_ (blk_far hMap hgb _) (fun hm => ?_)
    simp only [Tree.blocks, List.mem_cons, List.mem_append] at hm hgn
    rcases hm with e | hm | hm
    · exact hgb e
    · exact hgn (.inr (.inl (Tree.cut_mem hm)))
    · exact hgn (.inr (.inr hm))
  · refine ((hM.mono (fp' := g :: (Tree.node b k v h l r).blocks) (fun y hy => .inl (by rcases List.mem_cons.1 hy with rfl | hy; simp; simp [Tree.blocks, hy]))).trans M5 (fun y hy => .inl (by simp only [List.mem_singleton] at hy; simp [Tree.blocks, hy]))).trans hM6 mem
theorem cut_right {W : World} {g : Nat} {a : Option Addr} {n : Int} {b : Nat} {k : ByteArray} {v : S105} {h : Int} {l r : Tree S105} (key : ByteArray) (hg : MapAt W.heap g a n) (hA : At W.heap (.node b k v h l r)) (hn : (Tree.node b k v h l r).blocks.Nodup) (hgn : g ∉ (Tree.node b k v h l r).blocks)
    (gt : (Tree.node b k v h l r).Good) (hs : (Tree.node b k v h l r).size ≤ 10000000000) (h1 : Tree.lt key k = false) (h2 : key.toList ≠ k.toList)
    (ih : Calls Try.prog 86 #[.pointer (some ⟨g, 0, none⟩), .pointer (addr r), .string key] W (CutPost W g a n r key)) :
    Calls Try.prog 86 #[.pointer (some ⟨g, 0, none⟩), .pointer (some ⟨b, 0, none⟩), .string key] W (CutPost W g a n (.node b k v h l r) key) := by
  have hc0 : W.cell? ⟨b, 0, none⟩ = some (.string k) := (blk_cell hA.1 0).trans rfl
  have hc3 : W.cell? ⟨b, 8, none⟩ = some (.pointer (addr r)) := (blk_cell hA.1 8).trans rfl
  have e1 : Op.bytesLess key.toList k.toList = false := h1
  have e2 : (key.toList == k.toList) = false := beq_eq_false_iff_ne.2 h2
  have es : (Tree.node b k v h l r).cut key = (Tree.node b k v h l (r.cut key)).even := by rw [Tree.cut_node, if_neg (by rw [h1]; simp), if_neg h2]
  have eh : (Tree.node b k v h l r).has key = r.has key := by rw [Tree.has_node, if_neg (by rw [h1]; simp), if_neg h2]
  have HA := Lib.hid (And.intro hA (And.intro hg (And.intro hn (And.intro hgn (And.intro es (And.intro eh (And.intro gt hs)))))))
  have IH := Lib.hid ih
  clear hA hg hn hgn es eh h1 h2 gt hs ih
  go_enter Try.func86, Try.ntmps86
  go_wp2_with fail
  refine IH.out.mono ?_
  rintro e W1 ⟨rfl, hB, hMap, hM⟩
  obtain ⟨hA, hg, hn, hgn, es, eh, gt, hs⟩ := HA.out
  have nd := Tree.nd_node hn
  have hlt := at_lt hA
  have hgb : g ≠ b := fun e => hgn (by simp [Tree.blocks, e])
  have hbf : b ∉ g :: r.blocks := by simp only [List.mem_cons, not_or]; exact ⟨fun e => hgb e.symm, nd.2.1⟩
  have hb1 := hM.at_ hA.1 hbf
  replace hc3 : W1.cell? ⟨b, 8, none⟩ = some (.pointer (addr r)) := (blk_cell hb1 8).trans rfl
  have hf3 := blk_frozen hb1 8
  have ho1 : At W1.heap l := at_mod hA.2.1 hM (fun y hy hm => by
    rcases List.mem_cons.1 hm with e | e
    · subst e; exact hgn (by simp [Tree.blocks, hy])
    · exact nd.2.2.2.2.1 y hy e)
  have HB := Lib.hid (And.intro hB (And.intro hMap (And.intro hM (And.intro hb1 ho1))))
  clear hB hMap hM hb1 ho1 hbf nd hlt hgb hA hg hn hgn es eh gt hs hc0
  go_wp2_with fail
  obtain ⟨hA, hg, hn, hgn, es, eh, gt, hs⟩ := HA.out
  obtain ⟨hB, hMap, hM, hb1, ho1⟩ := HB.out
  have nd := Tree.nd_node hn
  have hlt := at_lt hA
  have hgb : g ≠ b := fun e => hgn (by simp [Tree.blocks, e])
  have M5 : Mod W1 (W1.setCell ⟨b, 8, none⟩ (.pointer (addr (r.cut key)))) [b] := (Mod.refl W1 [b]).setCell (.inl (by simp)) _
  have A5 : At (W1.setCell ⟨b, 8, none⟩ (.pointer (addr (r.cut key)))).heap (Tree.node b k v h l (r.cut key)) :=
    ⟨blk_put hb1 8 _ rfl, at_mod ho1 M5 (fun y hy hm => by simp only [List.mem_singleton] at hm; subst hm; exact nd.1 hy), at_mod hB M5 (fun y hy hm => by simp only [List.mem_singleton] at hm; subst hm; exact nd.2.1 (Tree.cut_mem hy))⟩
  have N5 : (Tree.node b k v h l (r.cut key)).blocks.Nodup := Tree.nd_mk nd.1 (fun hm => nd.2.1 (Tree.cut_mem hm)) nd.2.2.1 (Tree.cut_nodup nd.2.2.2.1) (fun y hy hm => nd.2.2.2.2.1 y hy (Tree.cut_mem hm))
  have S5 : (Tree.node b k v h l (r.cut key)).size ≤ 100000000000 := by
    have := Tree.cut_size (t := r) (key := key)
    simp only [Tree.size] at hs ⊢
    omega
  refine (even_calls A5 N5 gt.2.1 (Tree.cut_good gt.2.2) S5).mono ?_
  rintro e W6 ⟨rfl, hC, hM6⟩
  have HC := Lib.hid (And.intro hC (And.intro hM6 M5))
  clear hC hM6 M5 A5 N5 S5 nd hlt hgb hA hg hn hgn es eh gt hs hB hMap hM hb1 ho1
  go_wp2
  go_ret
  obtain ⟨hA, hg, hn, hgn, es, eh, gt, hs⟩ := HA.out
  obtain ⟨hB, hMap, hM, hb1, ho1⟩ := HB.out
  obtain ⟨hC, hM6, M5⟩ := HC.out
  have hgb : g ≠ b := fun e => hgn (by simp [Tree.blocks, e])
  have hgl : g < W.heap.size := hg.lt
  have mem : ∀ y ∈ (Tree.node b k v h l (r.cut key)).blocks, y ∈ g :: (Tree.node b k v h l r).blocks ∨ W.heap.size ≤ y := fun y hy => by
    simp only [Tree.blocks, List.mem_cons, List.mem_append] at hy ⊢
    rcases hy with rfl | hy | hy
    · exact .inl (.inr (.inl rfl))
    · exact .inl (.inr (.inr (.inl hy)))
    · exact .inl (.inr (.inr (.inr (Tree.cut_mem hy))))
  refine ⟨by rw [es]; rfl, by rw [es]; exact hC, ?_, ?_⟩
  · rw [eh]
    refine hM6.at_ (blk_far hMap hgb _) (fun hm => ?_)
    simp only [Tree.blocks, List.mem_cons, List.mem_append] at hm hgn
    rcases hm with e | hm | hm
    · exact hgb e
    · exact hgn (.inr (.inl hm))
    · exact hgn (.inr (.inr (Tree.cut_mem hm)))
  · refine ((hM.mono (fp' := g :: (Tree.node b k v h l r).blocks) (fun y hy => .inl (by rcases List.mem_cons.1 hy with rfl | hy; simp; simp [Tree.blocks, hy]))).trans M5 (fun y hy => .inl (by simp only [List.mem_singleton] at hy; simp [Tree.blocks, hy]))).trans hM6 mem
theorem cut_calls (t : Tree S105) : ∀ {W : World} {g : Nat} {a : Option Addr} {n : Int} (key : ByteArray), MapAt W.heap g a n → 0 ≤ n → n ≤ 10000000000 → At W.heap t → t.blocks.Nodup → g ∉ t.blocks → t.Good → t.size ≤ 10000000000 →
    Calls Try.prog 86 #[.pointer (some ⟨g, 0, none⟩), .pointer (addr t), .string key] W (CutPost W g a n t key) := by
  induction t with
  | nil => intro W g a n key hg n0 n1 hA hn hgn gt hs; exact cut_nil key hg
  | node b k v h l r il ir =>
    intro W g a n key hg n0 n1 hA hn hgn gt hs
    have nd := Tree.nd_node hn
    simp only [Tree.blocks, List.mem_cons, List.mem_append, not_or] at hgn
    have hgn' : g ∉ (Tree.node b k v h l r).blocks := by simp only [Tree.blocks, List.mem_cons, List.mem_append, not_or]; exact hgn
    have hs' := hs
    simp only [Tree.size] at hs'
    by_cases c1 : Tree.lt key k = true
    · exact cut_left key hg hA hn hgn' gt hs c1 (il key hg n0 n1 hA.2.1 nd.2.2.1 hgn.2.1 gt.2.1 (by omega))
    · by_cases c2 : key.toList = k.toList
      · cases r with
        | nil => exact cut_leaf key hg n0 n1 hA hgn' (by simpa using c1) c2
        | node b2 k2 v2 h2 l2 r2 => exact cut_mid key hg n0 n1 hA hn hgn' gt hs (by simpa using c1) c2 (by simp)
      · exact cut_right key hg hA hn hgn' gt hs (by simpa using c1) c2 (ir key hg n0 n1 hA.2.2 nd.2.2.2.1 hgn.2.2 gt.2.2 (by omega))
end Go.Proofs.Ytdelbidaclddgaa.Lat
