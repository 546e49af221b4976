/- The law OrderNothing walked by hand; a seat's own text. -/
import Derived.Test.YthfaacheolhjnaaOrdMaps
namespace Go.Proofs.Ythfaacheolhjnaa.Ord
open Go.RowKit Go.Proofs.YthfaacheolhjnaaW.PrintWords
set_option linter.unusedVariables false
set_option linter.unusedSimpArgs false
theorem Mod.bel {W W' : World} (h : Mod W W' []) : Below W.heap.size W W' := h.below (fun k hk => by simp at hk) (Nat.le_refl _)
def dovecotelaw08_OrderNothing.f (k : Nat) (a0 : ByteArray) (a1 : Int) : Option Bool := some true
set_option maxHeartbeats 4000000 in
theorem nothing_calls (a0 : ByteArray) (a1 : Int) (w : World) :
    Calls Try.prog 5 #[.string a0, .int .i64 a1] w (AwkP w) := by
  go_enter Try.func5, Try.ntmps5
  go_wp2_with fail
  refine awake_calls.mono ?_
  rintro e W1 ⟨rfl, m1⟩
  have H1 := Lib.hid m1
  clear m1
  go_wp2_with fail
  refine (Set_none a0 a1).mono ?_
  rintro e W2 ⟨rfl, rfl⟩
  go_wp2_with fail
  refine (Get_none a0).mono ?_
  rintro e W2 ⟨rfl, rfl⟩
  simp only [getEnd]
  go_wp2_with fail
  refine (Cut_none a0).mono ?_
  rintro e W2 ⟨rfl, rfl⟩
  go_wp2_with fail
  refine Len_none.mono ?_
  rintro e W2 ⟨rfl, rfl⟩
  go_wp2_with fail
  refine (Keys_none ⟨#[]⟩ ⟨#[]⟩ 9).mono ?_
  rintro e W2 ⟨rfl, rfl⟩
  go_wp2
  go_ret
  exact ⟨rfl, H1.out⟩
theorem dovecotelaw08_OrderNothing.calls (k : Nat) (a0 : ByteArray) (a1 : Int) (r : Bool) (w : World) (h : dovecotelaw08_OrderNothing.f k a0 a1 = some r) :
    Calls Try.prog 5 #[.string a0, .int .i64 a1] w fun e w' => e = .returned (.bool r) ∧ Below w.heap.size w w' := by
  obtain rfl : true = r := Option.some.inj h
  exact (nothing_calls a0 a1 w).mono fun e w' ⟨h1, h2⟩ => ⟨h1, h2.bel⟩
end Go.Proofs.Ythfaacheolhjnaa.Ord
