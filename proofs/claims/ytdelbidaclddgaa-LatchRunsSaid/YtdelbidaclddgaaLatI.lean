/- The layer 'latch': LatI; a seat's own text, no law of its own. -/
import Derived.Test.YtdelbidaclddgaaLatH
import Derived.Deep.LoopGhost
import Derived.Deep.Cut
import Derived.Lib.Hide
import Derived.StillTailTactics
import Derived.Deep.QuietTactic
import Derived.BigQuiet
import Derived.Outline
import Derived.Deep.RegionWith
import Derived.Deep.RegionHeld3
import Derived.WalkLawsBesides
namespace Go.Proofs.Ytdelbidaclddgaa.Lat
open Go.RowKit Go.Proofs.YtdelbidaclddgaaW.PrintWords Go.Proofs.Ytdelbidaclddgaa.MLatchRuns Go.Proofs.YtdelbidaclddgaaW.PrintLast
set_option linter.unusedVariables false
set_option linter.unusedSimpArgs false
/-! Right -/
theorem str_law : Go.Maps.Keyed Try.prog 9 := Go.Maps.string_keyed Try.underlying9
theorem zero4 (w : World) : (zeroValue 4).run Try.prog w = .ok (.bool false) w := by kernel_rfl
def RBo (v : Value) : Option (DataW Unit × List MemPlace) := match v with
  | .bool x => some (.lit (.bool x), [])
  | _ => none
/-- a map of the call's own from texts to bools, as a function -/
def CB (w : World) (b n : Nat) (f : ByteArray → Bool) : Prop := ∃ D : DataW Unit, w.ownsMap Try.prog 9 RBo b n D ∧ ∀ s : ByteArray, s.size ≤ maxLen → D.atKey (.string s.data.toList) (.lit (.bool false)) = .lit (.bool (f s))
theorem CB.made (w : World) : CB (w.alloc (.map #[] 0)) w.heap.size 0 (fun _ => false) := ⟨.map [], World.ownsMap_made _ _ _ _, fun _ _ => rfl⟩
theorem CB.mod {w w' : World} {b n : Nat} {f : ByteArray → Bool} {fp : List Nat} (h : CB w b n f) (m : Mod w w' fp) (hb : b ∉ fp) : CB w' b n f := by
  obtain ⟨D, h1, h3⟩ := h
  exact ⟨D, owns_mod h1 m hb, h3⟩
theorem CB.lt {w : World} {b n : Nat} {f : ByteArray → Bool} (h : CB w b n f) : b < w.heap.size := by
  obtain ⟨D, h1, h3⟩ := h
  exact h1.lt
set_option maxRecDepth 100000 in
theorem CB.run {w : World} {b n : Nat} {f : ByteArray → Bool} (h : CB w b n f) (s : ByteArray) (hs : s.size ≤ maxLen) : (Instr.lookup 123 (.map (some b)) (.string s) false).run Try.prog w = .ok (.bool (f s)) w := by
  obtain ⟨D, h1, h2⟩ := h
  obtain ⟨v, ps, hrun, hv⟩ := h1.lookup str_law Try.underlying123 (zero4 w) (show RBo (.bool false) = some (.lit (.bool false), []) from rfl) (Go.WideMaps.keyOf_string_mk Try.underlying9 hs)
  rw [h2 s hs] at hv
  rw [hrun]
  unfold RBo at hv
  split at hv
  · simp only [Option.some.injEq, Prod.mk.injEq] at hv
    have e := hv.1
    injection e with e
    injection e with e
    rw [e]
  · cases hv
set_option maxRecDepth 100000 in
theorem CB.put {w : World} {b n : Nat} {f : ByteArray → Bool} (h : CB w b n f) (hn : n < maxLen) (s : ByteArray) (hs : s.size ≤ maxLen) :
    ∃ w', (Instr.mapUpdate 123 (.map (some b)) (.string s) (.bool true)).run Try.prog w = .ok () w' ∧ CB w' b (n + 1) (fun x => if x.data.toList = s.data.toList then true else f x) ∧ Mod w w' [b] := by
  obtain ⟨D, h1, h2⟩ := h
  obtain ⟨w', hrun, hown, hgr⟩ := h1.update str_law Try.underlying123 hn (Go.WideMaps.keyOf_string_mk Try.underlying9 hs) (show RBo (.bool true) = some (.lit (.bool true), []) from rfl)
  obtain ⟨es, hD, _, _⟩ := h1.entries str_law
  refine ⟨w', hrun, ⟨_, hown, fun x hx => ?_⟩, mod_grown (Mod.refl w _) hgr (fun y hy => by cases hy; simp)⟩
  show _ = DataW.lit (Lit.bool (if x.data.toList = s.data.toList then true else f x))
  by_cases e : x.data.toList = s.data.toList
  · rw [if_pos e, e]
    exact Maps.atKey_put_same ⟨es, hD⟩ (show WideAt.IsKeyLit (.string s.data.toList) from trivial) _ _
  · rw [if_neg e, Maps.atKey_put_other (fun z => e (by injection z))]
    exact h2 x hx
def okW (x : S63) : Bool := keyB x.f0 && decide (x.f1.size ≤ 256) && !(x.f2 && decide (x.f1.toList ≠ []))
def keyD (x : S63) : List UInt8 := x.f0.data.toList
def rightW (l : List S63) : Bool := decide (0 < l.length) && decide (l.length ≤ 16) && l.all okW && decide ((l.map keyD).Nodup)
theorem right_bad {l : List S63} {j : Nat} (hj : j < l.length) (h : okW l[j] = false ∨ 16 < l.length ∨ keyD l[j] ∈ (l.take j).map keyD) : rightW l = false := by
  unfold rightW
  rcases h with h | h | h
  · have : l.all okW = false := by
      rw [Bool.eq_false_iff]
      intro e
      rw [List.all_eq_true.1 e _ (List.getElem_mem hj)] at h
      cases h
    rw [this]
    simp
  · rw [decide_eq_false (show ¬ l.length ≤ 16 by omega)]
    simp
  · have : ¬ (l.map keyD).Nodup := fun hn => by
      rw [← List.take_append_drop j l, List.map_append, List.drop_eq_getElem_cons hj] at hn
      exact (List.nodup_append.1 hn).2.2 _ h _ (by rw [List.map_cons]; exact List.mem_cons_self) rfl
    rw [decide_eq_false this]
    simp
structure Rj (l : List S63) (j : Nat) : Prop where
  ok : ∀ x ∈ l.take j, okW x = true
  nd : ((l.take j).map keyD).Nodup
  len : 0 < j → l.length ≤ 16
theorem Rj.zero (l : List S63) : Rj l 0 := ⟨fun x hx => by simp at hx, by simp, fun h => by omega⟩
theorem Rj.next {l : List S63} {j : Nat} (h : Rj l j) (hj : j < l.length) (h1 : okW l[j] = true) (h2 : l.length ≤ 16) (h3 : keyD l[j] ∉ (l.take j).map keyD) : Rj l (j + 1) := by
  refine ⟨fun x hx => ?_, ?_, fun _ => h2⟩
  · rw [List.take_succ_eq_append_getElem hj] at hx
    rcases List.mem_append.1 hx with hx | hx
    · exact h.ok x hx
    · simp at hx
      subst hx
      exact h1
  · rw [List.take_succ_eq_append_getElem hj, List.map_append]
    refine List.nodup_append.2 ⟨h.nd, by simp, fun a ha b hb => ?_⟩
    simp at hb
    subst hb
    exact fun e => h3 (e ▸ ha)
theorem Rj.end_ {l : List S63} (h : Rj l l.length) : rightW l = decide (0 < l.length) := by
  have h1 := h.ok
  have h2 := h.nd
  rw [List.take_length] at h1 h2
  unfold rightW
  rw [List.all_eq_true.2 h1, decide_eq_true h2]
  by_cases e : 0 < l.length
  · rw [decide_eq_true e, decide_eq_true (h.len e)]
    rfl
  · rw [decide_eq_false e]
    rfl
def seenF (l : List S63) (j : Nat) (s : ByteArray) : Bool := decide (s.data.toList ∈ (l.take j).map keyD)
theorem seenF_next {l : List S63} {j : Nat} (hj : j < l.length) : (fun x : ByteArray => if x.data.toList = l[j].f0.data.toList then true else seenF l j x) = seenF l (j + 1) := by
  funext x
  unfold seenF
  rw [List.take_succ_eq_append_getElem hj, List.map_append]
  by_cases e : x.data.toList = l[j].f0.data.toList
  · rw [if_pos e, e]
    exact (decide_eq_true (List.mem_append.2 (.inr (List.mem_singleton.2 rfl)))).symm
  · rw [if_neg e, decide_eq_decide, List.mem_append]
    constructor
    · exact .inl
    · rintro (h | h)
      · exact h
      · exact absurd (List.mem_singleton.1 h) e
set_option maxHeartbeats 4000000 in
set_option maxRecDepth 100000 in
theorem rightW_calls (A : Option Addr) (c : Nat) (l : List S63) (W : World) (hr : Kd.C k63 W A l.length l) (hc : l.length ≤ c) {r : Bool} (hb : rightW l = r) :
    Calls Try.prog 31 #[.slice A l.length c] W fun e W' => e = .returned (.bool r) ∧ Mod W W' [] := by
  have hl63 : l.length ≤ 9223372036854775807 := hr.2.1
  have hmm := @run_makeMap Try.prog
  have HR := Lib.hid (And.intro hr (And.intro hc hb))
  have HM := Lib.hid (And.intro (CB.made W) ((Mod.refl W []).alloc (.map #[] 0)))
  clear hr hc hb
  go_enter Try.func31, Try.ntmps31
  go_upto_region 2 with fail
  clear hmm
  generalize W.alloc _ = W1 at *
  generalize hgq : W.heap.size = q at *
  have HQ := Lib.hid hgq
  clear hgq
  go_wp2_with fail
  go_loopg [9] l.length (fun k i wr => ∃ (j : Nat), j ≤ l.length ∧ k = l.length - j ∧ i = .int .i64 j ∧ Rj l j ∧ CB wr q j (seenF l j) ∧ Mod W wr [])
  case atStart => exact ⟨0, Nat.zero_le _, rfl, rfl, Rj.zero l, by
    have e : seenF l 0 = fun _ => false := by funext x; simp [seenF]
    rw [e]; exact HM.out.1, HM.out.2⟩
  case round =>
    obtain ⟨j, hj, rfl, rfl, hR, hC, hM⟩ := hrel
    by_cases hjl : j < l.length
    · have hjz : (j : Int) < (l.length : Int) := by omega
      have hw : IntKind.i64.wrap ((j : Int) + 1) = ((j + 1 : Nat) : Int) := by
        have hr63 := hl63
        unfold IntKind.wrap; simp [IntKind.signed, IntKind.bits]; omega
      obtain ⟨ad, rfl, a0, a1, a2⟩ := wr_cells (Kd.C_below HR.out.1 hM.bel) j hjl
      have m6 : Mod wr (wr.alloc (.cells #[.string l[j].f0, .string l[j].f1, .bool l[j].f2] 63)) [] := (Mod.refl wr []).alloc _
      have x6 : WB (wr.alloc (.cells #[.string l[j].f0, .string l[j].f1, .bool l[j].f2] 63)) wr.heap.size l[j] := blk_new wr _
      have hbad := fun h => right_bad hjl h
      have hnx := fun h1 h2 h3 => hR.next hjl h1 h2 h3
      have hse := seenF_next hjl
      have H6 := Lib.hid (And.intro (hC.mod m6 (by simp)) (And.intro x6 (hM.trans m6 (fun _ hk => by cases hk))))
      have HJ := Lib.hid (And.intro hbad (And.intro hnx hse))
      have HF : Hid (seenF l j l[j].f0 = true ↔ keyD l[j] ∈ (l.take j).map keyD) := Lib.hid (by unfold seenF; exact decide_eq_true_iff)
      obtain ⟨sb, hsb⟩ : ∃ sb, seenF l j l[j].f0 = sb := ⟨_, rfl⟩
      have HSB := Lib.hid hsb
      clear hR hC hM m6 x6 hbad hnx hse hsb
      generalize l[j] = y at *
      go_upto_region 5 with fail
      clear a0 a1 a2
      generalize wr.alloc _ = W6 at *
      generalize wr.heap.size = q6 at *
      obtain ⟨c0, c1, c2⟩ := H6.out.2.1.all
      by_cases g1 : 16 < l.length
      · have g1z : (16 : Int) < (l.length : Int) := by omega
        have e := HJ.out.1 (.inr (.inl g1))
        rw [HR.out.2.2] at e
        subst e
        go_wp2
        go_ret
        exact ⟨rfl, H6.out.2.2⟩
      · have g1z : ¬ (16 : Int) < (l.length : Int) := by omega
        obtain ⟨kb, hkb⟩ : ∃ kb, keyB y.f0 = kb := ⟨_, rfl⟩
        have HKB := Lib.hid hkb
        clear hkb
        go_wp2_with fail
        refine (key_calls y.f0 _).mono ?_
        rw [HKB.out]
        rintro e W7 ⟨rfl, m7⟩
        have H7 := Lib.hid (And.intro (H6.out.1.mod m7 (by simp)) (And.intro (H6.out.2.1.mod m7 (by simp)) (H6.out.2.2.trans m7 (fun _ hk => by cases hk))))
        clear c0 c1 c2 m7 H6
        obtain ⟨c0, c1, c2⟩ := H7.out.2.1.all
        cases kb
        · have e := HJ.out.1 (.inl (by unfold okW; rw [HKB.out]; rfl))
          rw [HR.out.2.2] at e
          subst e
          go_wp2
          go_ret
          exact ⟨rfl, H7.out.2.2⟩
        · by_cases g2 : 256 < y.f1.size
          · have g2z : (256 : Int) < (y.f1.size : Int) := by omega
            have e := HJ.out.1 (.inl (by unfold okW; rw [decide_eq_false (show ¬ y.f1.size ≤ 256 by omega)]; simp))
            rw [HR.out.2.2] at e
            subst e
            go_wp2
            go_ret
            exact ⟨rfl, H7.out.2.2⟩
          · have g2z : ¬ (256 : Int) < (y.f1.size : Int) := by omega
            have hks : y.f0.size ≤ 32 := by
              have h := HKB.out
              unfold keyB at h
              simp only [Bool.and_eq_true, decide_eq_true_eq] at h
              exact h.2
            have hrun := H7.out.1.run y.f0 (by unfold maxLen; omega)
            rw [HSB.out] at hrun
            obtain ⟨db, hdb⟩ : ∃ db, y.f2 = db := ⟨_, rfl⟩
            obtain ⟨vb, hvb⟩ : ∃ vb, y.f1.toList = vb := ⟨_, rfl⟩
            have HDV := Lib.hid (And.intro hdb hvb)
            have hok : (db = true → vb = []) → okW y = true := fun h => by
              unfold okW
              rw [HKB.out, HDV.out.1, HDV.out.2, decide_eq_true (show y.f1.size ≤ 256 by omega)]
              cases db
              · rfl
              · rw [h rfl]; rfl
            have hno : db = true → vb ≠ [] → okW y = false := fun h1 h2 => by
              unfold okW
              rw [HDV.out.1, HDV.out.2, h1, decide_eq_true h2]
              simp
            have HOK := Lib.hid (And.intro hok hno)
            clear hok hno
            rw [hdb] at c2
            clear hdb
            cases db
            · cases sb
              · have hk1 : y.f0.size ≤ maxLen := by unfold maxLen; omega
                obtain ⟨W8, hrun8, hcb8, m8⟩ := H7.out.1.put (by unfold maxLen; omega) y.f0 hk1
                have HB8 := Lib.hid (And.intro hcb8 (And.intro m8 (HOK.out.1 (fun h => by cases h))))
                have HNF : Hid (keyD y ∉ (l.take j).map keyD) := Lib.hid fun h => by have h2 := HF.out.2 h; rw [HSB.out] at h2; cases h2
                clear hcb8 m8 hk1
                go_wp2
                go_roundg (l.length - (j + 1))
                case measure => omega
                case rel => exact ⟨j + 1, by omega, rfl, by rw [show ((j + 1 : Nat) : Int) = (j : Int) + 1 by omega], HJ.out.2.1 HB8.out.2.2 (by omega) HNF.out, by rw [← HJ.out.2.2]; exact HB8.out.1, H7.out.2.2.trans HB8.out.2.1 (fun z hz => .inr (by simp at hz; subst hz; rw [HQ.out]; exact Nat.le_refl _))⟩
              · have e := HJ.out.1 (.inr (.inr (HF.out.1 HSB.out)))
                rw [HR.out.2.2] at e
                subst e
                go_wp2
                go_ret
                exact ⟨rfl, H7.out.2.2⟩
            · by_cases hv : vb = []
              · have hve := HDV.out.2
                subst hv
                cases sb
                · have hk1 : y.f0.size ≤ maxLen := by unfold maxLen; omega
                  obtain ⟨W8, hrun8, hcb8, m8⟩ := H7.out.1.put (by unfold maxLen; omega) y.f0 hk1
                  have HB8 := Lib.hid (And.intro hcb8 (And.intro m8 (HOK.out.1 (fun _ => rfl))))
                  have HNF : Hid (keyD y ∉ (l.take j).map keyD) := Lib.hid fun h => by have h2 := HF.out.2 h; rw [HSB.out] at h2; cases h2
                  clear hcb8 m8 hk1
                  go_wp2
                  go_roundg (l.length - (j + 1))
                  case measure => omega
                  case rel => exact ⟨j + 1, by omega, rfl, by rw [show ((j + 1 : Nat) : Int) = (j : Int) + 1 by omega], HJ.out.2.1 HB8.out.2.2 (by omega) HNF.out, by rw [← HJ.out.2.2]; exact HB8.out.1, H7.out.2.2.trans HB8.out.2.1 (fun z hz => .inr (by simp at hz; subst hz; rw [HQ.out]; exact Nat.le_refl _))⟩
                · have e := HJ.out.1 (.inr (.inr (HF.out.1 HSB.out)))
                  rw [HR.out.2.2] at e
                  subst e
                  go_wp2
                  go_ret
                  exact ⟨rfl, H7.out.2.2⟩
              · have hv1 : ¬ y.f1.toList = [] := by rw [HDV.out.2]; exact hv
                have hv2 : y.f1.toList.isEmpty = false := by rw [HDV.out.2]; simpa using hv
                have hv3 : (y.f1.toList == []) = false := by rw [HDV.out.2]; simpa using hv
                have e := HJ.out.1 (.inl (HOK.out.2 rfl hv))
                rw [HR.out.2.2] at e
                subst e
                go_wp2
                go_ret
                exact ⟨rfl, H7.out.2.2⟩
    · obtain rfl : j = l.length := by omega
      have hzz : ¬ ((l.length : Int) < (l.length : Int)) := by omega
      have HE := Lib.hid hR.end_
      have HMM := Lib.hid hM
      clear hR hC hM
      by_cases g0 : 0 < l.length
      · have g0z : (0 : Int) < (l.length : Int) := by omega
        have er : r = true := by rw [← HR.out.2.2, HE.out, decide_eq_true g0]
        subst er
        go_wp2
        go_ret
        exact ⟨rfl, HMM.out⟩
      · have g0z : ¬ (0 : Int) < (l.length : Int) := by omega
        have er : r = false := by rw [← HR.out.2.2, HE.out, decide_eq_false g0]
        subst er
        go_wp2
        go_ret
        exact ⟨rfl, HMM.out⟩
end Go.Proofs.Ytdelbidaclddgaa.Lat
