/- The law PostFirst walked by hand; a seat's own text. -/
import Derived.Test.YtgkpljlcdopalaaPostBase
namespace Go.Proofs.Ytgkpljlcdopalaa.Post
open Go.RowKit Go.Proofs.YtgkpljlcdopalaaW.PrintWords
set_option linter.unusedVariables false
set_option linter.unusedSimpArgs false
/-- What a law's call holds of its own post. -/
def Own (w W : World) (T : Nat) (g : Nat) (l : List ByteArray) (fp : List Nat) : Prop := PF T W g l fp ∧ (∀ x ∈ fp, w.heap.size ≤ x) ∧ Mod w W []
theorem Own.step {w W W' : World} {T g : Nat} {l l' : List ByteArray} {fp : List Nat} (h : Own w W T g l fp) (s : ∃ fp', PF T W' g l' fp' ∧ Mod W W' fp ∧ ∀ y ∈ fp', y ∈ fp ∨ W.heap.size ≤ y) : ∃ fp', Own w W' T g l' fp' := by
  obtain ⟨fp', f, m, b⟩ := s
  refine ⟨fp', f, fun x hx => ?_, h.2.2.trans m (fun y hy => .inr (h.2.1 y hy))⟩
  rcases b x hx with hh | hh
  · exact h.2.1 x hh
  · have := h.2.2.size; omega
theorem Own.mod {w W W' : World} {T g : Nat} {l : List ByteArray} {fp : List Nat} (h : Own w W T g l fp) (m : Mod W W' []) : Own w W' T g l fp := ⟨h.1.mod m (by simp), h.2.1, h.2.2.trans m (by simp)⟩
def AwkP (w : World) (e : Ending) (w' : World) : Prop := e = .returned (.bool true) ∧ Mod w w' []
set_option maxHeartbeats 1000000 in
theorem awake_calls {w : World} : Calls Try.prog 17 #[] w (AwkP w) := by
  go_enter Try.func17, Try.ntmps17
  go_wp2_with fail
  refine new_calls.mono ?_
  rintro e W1 ⟨rfl, f1, m1⟩
  have hO : Own w W1 70 w.heap.size [] [w.heap.size] := ⟨f1, by simp, m1⟩
  have O1 := Lib.hid hO
  clear f1 m1 hO
  generalize w.heap.size = g at *
  go_wp2_with fail
  refine (send_calls ⟨#[97]⟩ O1.out.1 (by simp)).mono ?_
  rintro e W2 ⟨rfl, h2⟩
  obtain ⟨fp2, hO2⟩ := O1.out.step h2
  have O2 : Hid (Own w W2 70 g [⟨#[97]⟩] fp2) := Lib.hid hO2
  clear h2 hO2
  go_wp2_with fail
  refine (send_calls ⟨#[98]⟩ O2.out.1 (by simp)).mono ?_
  rintro e W3 ⟨rfl, h3⟩
  obtain ⟨fp3, hO3⟩ := O2.out.step h3
  have O3 : Hid (Own w W3 70 g [⟨#[97]⟩, ⟨#[98]⟩] fp3) := Lib.hid hO3
  clear h3 hO3
  go_wp2_with fail
  refine (take_calls (-1) O3.out.1 (by simp)).mono ?_
  rintro e W4 ⟨rfl, h4⟩
  obtain ⟨fp4, hO4⟩ := O3.out.step h4
  have O4 : Hid (Own w W4 70 g [⟨#[97]⟩] fp4) := Lib.hid hO4
  have e4 : pat (-1) [⟨#[97]⟩, ⟨#[98]⟩] = ⟨#[98]⟩ := rfl
  rw [e4]
  clear h4 hO4 e4
  go_wp2_with fail
  refine (all_calls O4.out.1 (by simp)).mono ?_
  rintro e W5 ⟨A5, n5, c5, rfl, rfl, _, _, m5⟩
  have H5 := Lib.hid (O4.out.2.2.trans m5 (by simp))
  clear m5
  go_wp2
  go_ret
  exact ⟨rfl, H5.out⟩
theorem str_cells {w : World} {A : Option Addr} {l : List ByteArray} (h : Kd.C Kd.string w A l.length l) (j : Nat) (hj : j < l.length) : ∃ ad, A = some ad ∧ w.cell? (ad.add j) = some (.string l[j]) := by
  obtain ⟨ad, h1, h2⟩ := Kd.at_string h j (by omega) (by omega)
  refine ⟨ad, h1, ?_⟩
  have e : rdOf ByteArray.empty l (j : Int) = l[j] := by
    unfold rdOf
    rw [Int.toNat_natCast, List.getD_eq_getElem?_getD, List.getElem?_eq_getElem hj]; rfl
  rw [Int.toNat_natCast, e] at h2
  exact h2
theorem pat0 {x : ByteArray} {l : List ByteArray} : pat 0 (x :: l) = x := by
  have : pidx 0 (x :: l).length = 0 := by unfold pidx; simp
  unfold pat; rw [this]; rfl
theorem pcut0 {x : ByteArray} {l : List ByteArray} : pcut 0 (x :: l) = l := by
  have : pidx 0 (x :: l).length = 0 := by unfold pidx; simp
  unfold pcut; rw [this]; rfl
set_option maxRecDepth 100000 in
set_option maxHeartbeats 4000000 in
theorem first_calls (A : Option Addr) (c : Nat) (l : List ByteArray) (w : World) (hr : Kd.C Kd.string w A l.length l) (hc : l.length ≤ c) :
    Calls Try.prog 4 #[.slice A l.length c] w (AwkP w) := by
  have HR := Lib.hid (And.intro hr hc)
  clear hr hc
  go_enter Try.func4, Try.ntmps4
  go_wp2_with fail
  refine awake_calls.mono ?_
  rintro e W1 ⟨rfl, m1⟩
  have H1 := Lib.hid m1
  clear m1
  by_cases h200 : 200 < l.length
  · have hz : 200 < (l.length : Int) := by omega
    go_wp2
    go_ret
    exact ⟨rfl, H1.out⟩
  have hz : ¬ (200 < (l.length : Int)) := by omega
  have H2 := Lib.hid h200
  clear h200
  go_wp2_with fail
  refine new_calls.mono ?_
  rintro e W2 ⟨rfl, f2, m2⟩
  have hO : Own w W2 70 W1.heap.size (l.take 0) [W1.heap.size] := ⟨f2, by have := H1.out.size; simp; omega, H1.out.trans m2 (by simp)⟩
  have O2 := Lib.hid hO
  clear f2 m2 hO
  generalize W1.heap.size = g at *
  go_wp2_with fail
  go_loopg [20] l.length (fun k i wr => ∃ j : Nat, j ≤ l.length ∧ k = l.length - j ∧ i = .int .i64 j ∧ ∃ fp, Own w wr 70 g (l.take j) fp)
  case atStart => exact ⟨0, Nat.zero_le _, rfl, rfl, _, O2.out⟩
  case round =>
    obtain ⟨j, hj, rfl, rfl, fp, ho⟩ := hrel
    have HJ := Lib.hid ho
    clear ho
    by_cases hjl : j < l.length
    · obtain ⟨ad, rfl, hcl⟩ := str_cells (Kd.C_below HR.out.1 HJ.out.2.2.bel) j hjl
      have hjz : (j : Int) < (l.length : Int) := by omega
      have hw : IntKind.i64.wrap ((j : Int) + 1) = ((j + 1 : Nat) : Int) := by have := H2.out; unfold IntKind.wrap; simp [IntKind.signed, IntKind.bits]; omega
      have ht : (l.take j).length = j := by rw [List.length_take]; omega
      have hx : l.take j ++ [l[j]] = l.take (j + 1) := (List.take_succ_eq_append_getElem hjl).symm
      have HX := Lib.hid (And.intro ht hx)
      clear ht hx
      generalize l[j] = x at *
      go_wp2_with fail
      refine (send_calls x HJ.out.1 (by rw [HX.out.1]; have := H2.out; omega)).mono ?_
      have hd : decide ((l.take j).length < 200) = true := decide_eq_true (by rw [HX.out.1]; have := H2.out; omega)
      rintro e W3 ⟨rfl, h3⟩
      rw [if_pos (by rw [HX.out.1]; have := H2.out; omega), HX.out.2] at h3
      rw [hd]
      have H3 := Lib.hid (HJ.out.step h3)
      clear h3 hd
      go_wp2
      go_roundg (l.length - (j + 1))
      case measure => omega
      case rel => exact ⟨j + 1, by omega, rfl, by rw [show ((j + 1 : Nat) : Int) = (j : Int) + 1 by omega], H3.out⟩
    · obtain rfl : j = l.length := by omega
      have hjz : ¬ ((l.length : Int) < (l.length : Int)) := by omega
      rw [List.take_length] at HJ
      have HJ2 : Hid (Own w wr 70 g (l.drop 0) fp) := Lib.hid HJ.out
      go_wp2_with fail
      go_loopg [31] l.length (fun k i wr => ∃ j : Nat, j ≤ l.length ∧ k = l.length - j ∧ i = .int .i64 j ∧ ∃ fp, Own w wr 70 g (l.drop j) fp)
      case atStart => exact ⟨0, Nat.zero_le _, rfl, rfl, _, HJ2.out⟩
      case round =>
        obtain ⟨j, hj, rfl, rfl, fp, ho⟩ := hrel
        have HK := Lib.hid ho
        clear ho
        by_cases hjl : j < l.length
        · obtain ⟨ad, rfl, hcl⟩ := str_cells (Kd.C_below HR.out.1 HK.out.2.2.bel) j hjl
          have hjz : (j : Int) < (l.length : Int) := by omega
          have hw : IntKind.i64.wrap ((j : Int) + 1) = ((j + 1 : Nat) : Int) := by have := H2.out; unfold IntKind.wrap; simp [IntKind.signed, IntKind.bits]; omega
          have hdr : l.drop j = l[j] :: l.drop (j + 1) := List.drop_eq_getElem_cons hjl
          generalize l[j] = x at *
          have HX := Lib.hid hdr
          clear hdr
          go_wp2_with fail
          refine (take_calls 0 HK.out.1 (by rw [List.length_drop]; have := H2.out; omega)).mono ?_
          rintro e W3 ⟨rfl, h3⟩
          have hd : decide (0 < (l.drop j).length) = true := decide_eq_true (by rw [HX.out]; simp)
          have hp : pat 0 (l.drop j) = x := by rw [HX.out, pat0]
          have hq : pcut 0 (l.drop j) = l.drop (j + 1) := by rw [HX.out, pcut0]
          rw [hq] at h3
          rw [hd, hp]
          have H3 := Lib.hid (HK.out.step h3)
          clear h3 hd hp hq
          go_wp2
          go_roundg (l.length - (j + 1))
          case measure => omega
          case rel => exact ⟨j + 1, by omega, rfl, by rw [show ((j + 1 : Nat) : Int) = (j : Int) + 1 by omega], H3.out⟩
        · obtain rfl : j = l.length := by omega
          have hjz : ¬ ((l.length : Int) < (l.length : Int)) := by omega
          rw [List.drop_length] at HK
          go_wp2_with fail
          refine (take_calls 0 HK.out.1 (by simp)).mono ?_
          rintro e W3 ⟨rfl, h3⟩
          have H3 := Lib.hid (HK.out.step h3)
          clear h3
          have hd : decide (0 < ([] : List ByteArray).length) = false := rfl
          rw [hd]
          clear hd
          go_wp2
          go_ret
          obtain ⟨fp', hf⟩ := H3.out
          exact ⟨rfl, hf.2.2⟩
def dovecotelaw16_PostFirst.f (k : Nat) (l : List ByteArray) : Option Bool := some true
theorem dovecotelaw16_PostFirst.calls (k : Nat) (A0 : Option Addr) (c0 : Nat) (l0 : List ByteArray) (r : Bool) (w : World) (hr0 : Kd.C Kd.string w A0 l0.length l0) (hc0 : l0.length ≤ c0) (h : dovecotelaw16_PostFirst.f k l0 = some r) :
    Calls Try.prog 4 #[.slice A0 l0.length c0] w fun e w' => e = .returned (.bool r) ∧ Below w.heap.size w w' := by
  obtain rfl : true = r := Option.some.inj h
  exact (first_calls A0 c0 l0 w hr0 hc0).mono fun e w' ⟨h1, h2⟩ => ⟨h1, h2.bel⟩
end Go.Proofs.Ytgkpljlcdopalaa.Post
