/- The law StoreNothing walked by hand; a seat's own text. -/
import Derived.Test.YtomcjcoehahikaaStoLaw
import Derived.Deep.LoopGhost
import Derived.Deep.Cut
import Derived.Lib.Hide
import Derived.StillTailTactics
import Derived.Deep.QuietTactic
import Derived.BigQuiet
import Derived.Outline
import Derived.Deep.RegionWith
import Derived.Deep.RegionHeld3
import Derived.WalkLawsBesides
namespace Go.Proofs.Ytomcjcoehahikaa.Sto
open Go.RowKit Go.Proofs.YtomcjcoehahikaaW.PrintWords
set_option linter.unusedVariables false
set_option linter.unusedSimpArgs false
open Go.Proofs.Ytomcjcoehahikaa.Ord Go.Proofs.Ytomcjcoehahikaa.MStoreRuns Go.Proofs.YtomcjcoehahikaaW.PrintLast
set_option maxRecDepth 100000 in
set_option maxHeartbeats 4000000 in
theorem nothing_calls {W : World} (key : ByteArray) (a0 a1 a2 a3 : Int) (a4 : ByteArray) (a5 : Bool) :
    Calls Try.prog 12 #[.string key, .agg #[.int .u64 a0, .int .u32 a1, .int .u32 a2, .int .u32 a3, .string a4, .bool a5]] W (AwkP W) := by
  have hm := (Mod.refl W []).alloc (.cells #[.int .u64 a0, .int .u32 a1, .int .u32 a2, .int .u32 a3, .string a4, .bool a5] 31)
  have hb := blk_new W (.cells #[.int .u64 a0, .int .u32 a1, .int .u32 a2, .int .u32 a3, .string a4, .bool a5] 31)
  have H := Lib.hid (And.intro hm hb)
  clear hm hb
  go_enter Try.func12, Try.ntmps12
  go_wp2_with fail
  generalize W.alloc (.cells #[.int .u64 a0, .int .u32 a1, .int .u32 a2, .int .u32 a3, .string a4, .bool a5] 31) = W0 at H ⊢
  generalize W.heap.size = v at H ⊢
  refine awake_calls.mono ?_
  rintro e W1 ⟨rfl, m1⟩
  have hb_W1 := m1.at_ (H.out.2) (by simp)
  have c0_W1 : W1.cell? ⟨v, 0, none⟩ = some (.int .u64 a0) := (blk_cell hb_W1 0).trans rfl
  have c1_W1 : W1.cell? ⟨v, 1, none⟩ = some (.int .u32 a1) := (blk_cell hb_W1 1).trans rfl
  have c2_W1 : W1.cell? ⟨v, 2, none⟩ = some (.int .u32 a2) := (blk_cell hb_W1 2).trans rfl
  have c3_W1 : W1.cell? ⟨v, 3, none⟩ = some (.int .u32 a3) := (blk_cell hb_W1 3).trans rfl
  have c4_W1 : W1.cell? ⟨v, 4, none⟩ = some (.string a4) := (blk_cell hb_W1 4).trans rfl
  have c5_W1 : W1.cell? ⟨v, 5, none⟩ = some (.bool a5) := (blk_cell hb_W1 5).trans rfl
  have H1 := Lib.hid (And.intro (H.out.1.trans m1 (by simp)) hb_W1)
  clear hb_W1 m1
  go_wp2_with fail
  refine (get_none key a0 a1).mono ?_
  rintro e W2 ⟨rfl, m2⟩
  have hb_W2 := m2.at_ (H1.out.2) (by simp)
  have c0_W2 : W2.cell? ⟨v, 0, none⟩ = some (.int .u64 a0) := (blk_cell hb_W2 0).trans rfl
  have c1_W2 : W2.cell? ⟨v, 1, none⟩ = some (.int .u32 a1) := (blk_cell hb_W2 1).trans rfl
  have c2_W2 : W2.cell? ⟨v, 2, none⟩ = some (.int .u32 a2) := (blk_cell hb_W2 2).trans rfl
  have c3_W2 : W2.cell? ⟨v, 3, none⟩ = some (.int .u32 a3) := (blk_cell hb_W2 3).trans rfl
  have c4_W2 : W2.cell? ⟨v, 4, none⟩ = some (.string a4) := (blk_cell hb_W2 4).trans rfl
  have c5_W2 : W2.cell? ⟨v, 5, none⟩ = some (.bool a5) := (blk_cell hb_W2 5).trans rfl
  have H2 := Lib.hid (And.intro (H1.out.1.trans m2 (by simp)) hb_W2)
  clear hb_W2 m2
  go_wp2_with fail
  refine (put_none key a0 a1 a2 a3 a4 a5).mono ?_
  rintro e W3 ⟨rfl, m3⟩
  have hb_W3 := m3.at_ (H2.out.2) (by simp)
  have c0_W3 : W3.cell? ⟨v, 0, none⟩ = some (.int .u64 a0) := (blk_cell hb_W3 0).trans rfl
  have c1_W3 : W3.cell? ⟨v, 1, none⟩ = some (.int .u32 a1) := (blk_cell hb_W3 1).trans rfl
  have c2_W3 : W3.cell? ⟨v, 2, none⟩ = some (.int .u32 a2) := (blk_cell hb_W3 2).trans rfl
  have c3_W3 : W3.cell? ⟨v, 3, none⟩ = some (.int .u32 a3) := (blk_cell hb_W3 3).trans rfl
  have c4_W3 : W3.cell? ⟨v, 4, none⟩ = some (.string a4) := (blk_cell hb_W3 4).trans rfl
  have c5_W3 : W3.cell? ⟨v, 5, none⟩ = some (.bool a5) := (blk_cell hb_W3 5).trans rfl
  have H3 := Lib.hid (And.intro (H2.out.1.trans m3 (by simp)) hb_W3)
  clear hb_W3 m3
  go_wp2_with fail
  refine (newest_none key).mono ?_
  rintro e W4 ⟨rfl, m4⟩
  have hb_W4 := m4.at_ (H3.out.2) (by simp)
  have c0_W4 : W4.cell? ⟨v, 0, none⟩ = some (.int .u64 a0) := (blk_cell hb_W4 0).trans rfl
  have c1_W4 : W4.cell? ⟨v, 1, none⟩ = some (.int .u32 a1) := (blk_cell hb_W4 1).trans rfl
  have c2_W4 : W4.cell? ⟨v, 2, none⟩ = some (.int .u32 a2) := (blk_cell hb_W4 2).trans rfl
  have c3_W4 : W4.cell? ⟨v, 3, none⟩ = some (.int .u32 a3) := (blk_cell hb_W4 3).trans rfl
  have c4_W4 : W4.cell? ⟨v, 4, none⟩ = some (.string a4) := (blk_cell hb_W4 4).trans rfl
  have c5_W4 : W4.cell? ⟨v, 5, none⟩ = some (.bool a5) := (blk_cell hb_W4 5).trans rfl
  have H4 := Lib.hid (And.intro (H3.out.1.trans m4 (by simp)) hb_W4)
  clear hb_W4 m4
  go_wp2_with fail
  refine (count_none key).mono ?_
  rintro e W5 ⟨rfl, rfl⟩
  go_wp2_with fail
  refine (scan_none ⟨#[]⟩ ⟨#[]⟩ a0 a1 9).mono ?_
  rintro e W6 ⟨A, c, rfl, _, _, m6⟩
  have hb_W6 := m6.at_ (H4.out.2) (by simp)
  have c0_W6 : W6.cell? ⟨v, 0, none⟩ = some (.int .u64 a0) := (blk_cell hb_W6 0).trans rfl
  have c1_W6 : W6.cell? ⟨v, 1, none⟩ = some (.int .u32 a1) := (blk_cell hb_W6 1).trans rfl
  have c2_W6 : W6.cell? ⟨v, 2, none⟩ = some (.int .u32 a2) := (blk_cell hb_W6 2).trans rfl
  have c3_W6 : W6.cell? ⟨v, 3, none⟩ = some (.int .u32 a3) := (blk_cell hb_W6 3).trans rfl
  have c4_W6 : W6.cell? ⟨v, 4, none⟩ = some (.string a4) := (blk_cell hb_W6 4).trans rfl
  have c5_W6 : W6.cell? ⟨v, 5, none⟩ = some (.bool a5) := (blk_cell hb_W6 5).trans rfl
  have H6 := Lib.hid (And.intro (H4.out.1.trans m6 (by simp)) hb_W6)
  clear hb_W6 m6
  go_wp2_with fail
  refine (prune_none a0 a1).mono ?_
  rintro e W7 ⟨rfl, m7⟩
  have hb_W7 := m7.at_ (H6.out.2) (by simp)
  have c0_W7 : W7.cell? ⟨v, 0, none⟩ = some (.int .u64 a0) := (blk_cell hb_W7 0).trans rfl
  have c1_W7 : W7.cell? ⟨v, 1, none⟩ = some (.int .u32 a1) := (blk_cell hb_W7 1).trans rfl
  have c2_W7 : W7.cell? ⟨v, 2, none⟩ = some (.int .u32 a2) := (blk_cell hb_W7 2).trans rfl
  have c3_W7 : W7.cell? ⟨v, 3, none⟩ = some (.int .u32 a3) := (blk_cell hb_W7 3).trans rfl
  have c4_W7 : W7.cell? ⟨v, 4, none⟩ = some (.string a4) := (blk_cell hb_W7 4).trans rfl
  have c5_W7 : W7.cell? ⟨v, 5, none⟩ = some (.bool a5) := (blk_cell hb_W7 5).trans rfl
  have H7 := Lib.hid (And.intro (H6.out.1.trans m7 (by simp)) hb_W7)
  clear hb_W7 m7
  go_wp2_with fail
  refine items_none.mono ?_
  rintro e W8 ⟨A, c, rfl, _, m8⟩
  have hb_W8 := m8.at_ (H7.out.2) (by simp)
  have c0_W8 : W8.cell? ⟨v, 0, none⟩ = some (.int .u64 a0) := (blk_cell hb_W8 0).trans rfl
  have c1_W8 : W8.cell? ⟨v, 1, none⟩ = some (.int .u32 a1) := (blk_cell hb_W8 1).trans rfl
  have c2_W8 : W8.cell? ⟨v, 2, none⟩ = some (.int .u32 a2) := (blk_cell hb_W8 2).trans rfl
  have c3_W8 : W8.cell? ⟨v, 3, none⟩ = some (.int .u32 a3) := (blk_cell hb_W8 3).trans rfl
  have c4_W8 : W8.cell? ⟨v, 4, none⟩ = some (.string a4) := (blk_cell hb_W8 4).trans rfl
  have c5_W8 : W8.cell? ⟨v, 5, none⟩ = some (.bool a5) := (blk_cell hb_W8 5).trans rfl
  have H8 := Lib.hid (And.intro (H7.out.1.trans m8 (by simp)) hb_W8)
  clear hb_W8 m8
  go_wp2
  go_ret
  exact ⟨rfl, H8.out.1⟩
def dovecotelaw09_StoreNothing.f (k : Nat) (key : ByteArray) (a0 a1 a2 a3 : Int) (a4 : ByteArray) (a5 : Bool) : Option Bool := some true
theorem dovecotelaw09_StoreNothing.calls (k : Nat) (a0 : ByteArray) (a1_0 a1_1 a1_2 a1_3 : Int) (a1_4 : ByteArray) (a1_5 : Bool) (r : Bool) (w : World) (h : dovecotelaw09_StoreNothing.f k a0 a1_0 a1_1 a1_2 a1_3 a1_4 a1_5 = some r) :
    Calls Try.prog 12 #[.string a0, .agg #[.int .u64 a1_0, .int .u32 a1_1, .int .u32 a1_2, .int .u32 a1_3, .string a1_4, .bool a1_5]] w fun e w' => e = .returned (.bool r) ∧ Below w.heap.size w w' := by
  obtain rfl : true = r := Option.some.inj h
  exact (nothing_calls a0 a1_0 a1_1 a1_2 a1_3 a1_4 a1_5).mono fun e w' ⟨h1, h2⟩ => ⟨h1, Mod.bel h2⟩
end Go.Proofs.Ytomcjcoehahikaa.Sto
