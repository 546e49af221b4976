/- The law StampTexts walked by hand; a seat's own text. -/
import Derived.Test.YthfaacheolhjnaaDoorRows
import Derived.Test.YthfaacheolhjnaaDoorTxtB
import Derived.Lib.LaidTab
import Derived.LaidLaws
import Derived.Lib.Hide
namespace Go.Proofs.YthfaacheolhjnaaDoor.Txt
open Go.RowKit Go.Proofs.YthfaacheolhjnaaDoorW.PrintWords
set_option linter.unusedVariables false
set_option linter.unusedSimpArgs false
open Go.Joins Go.Proofs.YthfaacheolhjnaaDoor.MStampOrders Go.Proofs.YthfaacheolhjnaaDoorW.PrintLast Go.Lib
/-! what the row lists of the library's variables -/
theorem vars_of_laid {W : World} (h : laidMet Tryd.prog Rows.stampTextsRow.laid W) : Vars W := by
  obtain ⟨ps, ⟨g0, t0, cs0, f0, p0, q0, hg0, ht0, hv0, hd0, ⟨g1, t1, cs1, f1, p1, q1, hg1, ht1, hv1, hd1, ⟨g2, t2, cs2, f2, p2, q2, hg2, ht2, hv2, hd2, ⟨g3, t3, cs3, f3, p3, q3, hg3, ht3, hv3, hd3, ⟨g4, t4, cs4, f4, p4, q4, hg4, ht4, hv4, hd4, _, _⟩, _⟩, _⟩, _⟩, _⟩, _, _⟩ := h
  obtain rfl := Option.some.inj ((show Tryd.prog.globalNamed "internal/strconv.uint64pow10" = some 0 by kernel_rfl).symm.trans hg2)
  obtain rfl := Option.some.inj ((show Tryd.prog.globalNamed "strconv.ErrRange" = some 3 by kernel_rfl).symm.trans hg3)
  obtain rfl := Option.some.inj ((show Tryd.prog.globalNamed "strconv.ErrSyntax" = some 2 by kernel_rfl).symm.trans hg4)
  obtain rfl := Option.some.inj ((show (Tryd.prog.globals[0]?).map (·.type) = some 80 by kernel_rfl).symm.trans ht2)
  obtain rfl := Option.some.inj ((show (Tryd.prog.globals[3]?).map (·.type) = some 53 by kernel_rfl).symm.trans ht3)
  obtain rfl := Option.some.inj ((show (Tryd.prog.globals[2]?).map (·.type) = some 53 by kernel_rfl).symm.trans ht4)
  refine ⟨?_, ?_, ?_⟩
  · have e := Lib.cells_of_tab (zs := Lib.pow10Tab) (k := .u64) Tryd.underlying80 Tryd.underlying22 (by kernel_rfl) (by kernel_rfl) hd2
    unfold Lib.TabIs
    rw [hv2, ← e]
  · obtain ⟨l⟩ := cs4
    obtain ⟨_, u, v, rfl, _⟩ := iface_of_trod Tryd.underlying53 hd4
    exact ⟨u, v, hv4⟩
  · obtain ⟨l⟩ := cs3
    obtain ⟨_, u, v, rfl, _⟩ := iface_of_trod Tryd.underlying53 hd3
    exact ⟨u, v, hv3⟩
def okTexts (a b : Int) (s : ByteArray) : Prop := (0 ≤ a ∧ a < 18446744073709551616) ∧ (0 ≤ b ∧ b < 4294967296) ∧ s.size ≤ 140737488351232
theorem texts_int (a b : Int) (s : ByteArray) (h : okTexts a b s) (w : World) (hv : Vars w) :
    Calls Tryd.prog 6 #[.agg #[.int .u64 a, .int .u32 b], .string s] w fun e w' => e = .returned (.bool true) ∧ Below w.heap.size w w' := by
  obtain ⟨⟨a0, a1⟩, ⟨b0, b1⟩, hs⟩ := h
  obtain ⟨p, rfl⟩ := Int.eq_ofNat_of_zero_le a0
  obtain ⟨l, rfl⟩ := Int.eq_ofNat_of_zero_le b0
  exact texts_walk p l (by omega) (by omega) s hs w hv
open Classical in
noncomputable def dovecotelaw01_StampTexts.f (k : Nat) (a0_0 : Int) (a0_1 : Int) (a1 : ByteArray) : Option Bool := if okTexts a0_0 a0_1 a1 then some true else none
theorem dovecotelaw01_StampTexts.calls (k : Nat) (a0_0 : Int) (a0_1 : Int) (a1 : ByteArray) (r : Bool) (w : World) (hL : laidMet Tryd.prog Rows.stampTextsRow.laid w) (h : dovecotelaw01_StampTexts.f k a0_0 a0_1 a1 = some r) :
    Calls Tryd.prog 6 #[.agg #[.int .u64 a0_0, .int .u32 a0_1], .string a1] w fun e w' => e = .returned (.bool r) ∧ Below w.heap.size w w' := by
  unfold dovecotelaw01_StampTexts.f at h
  split at h
  · rename_i hg
    obtain rfl := Option.some.inj h
    exact texts_int a0_0 a0_1 a1 hg w (vars_of_laid hL)
  · cases h
end Go.Proofs.YthfaacheolhjnaaDoor.Txt
